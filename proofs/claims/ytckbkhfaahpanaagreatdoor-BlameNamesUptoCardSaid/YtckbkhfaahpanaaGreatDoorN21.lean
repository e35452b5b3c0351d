/- Part 21 of the proof that quiltlaw38.BlameNames returns true: no statement of its own. -/
import Derived.Test.YtckbkhfaahpanaaGreatDoorN20
import Derived.Test.YtckbkhfaahpanaaGreatDoorN19
import Derived.Test.YtckbkhfaahpanaaGreatDoorN14
import Derived.Test.YtckbkhfaahpanaaGreatDoorN9
import Derived.Lib.Overlaps
import Derived.Shelf.RegionOpen
import Derived.Test.YtckbkhfaahpanaaGreatDoorN0
set_option linter.all false
namespace Go.Proofs.Ev
open Go.Proofs
variable {C:Cfg} {σ:Sorts}
theorem flatten_len {α β:Type} {f:α→List β} {b:Nat}:∀{l:List α},(∀x∈l,(f x).length≤b)→(l.map f).flatten.length≤b*l.length
 | [],_=>by simp
 | x::l,h=>by
  have h1:=h x (by simp)
  have h2:=flatten_len (l:=l) fun y hy=>h y (by simp [hy])
  simp only [List.map_cons,List.flatten_cons,List.length_append,List.length_cons,Nat.mul_add]
  omega
theorem needsP_len (hd:∀l,(σ.d l).Perm l) {p:PatchV} (hp:p.Good):(needsP σ p).length≤2^20:=by
 have h1:=(compL_len (σ.d (needL p))).1
 have h2:=(hd (needL p)).length_eq
 have h3:=flatten_len (f:=fun c=>others (refIds c)) (b:=404) (l:=p.changes) fun c hc=>Nat.le_trans (others_len _) (refIds_len c (hp.good hc).on)
 obtain ⟨_,_,h4,_,h5⟩:=hp.head
 have h6:(needL p).length=p.deps.length+((p.changes.map fun c=>others (refIds c)).flatten).length:=by unfold needL;simp
 unfold needsP
 omega
def okP (σ:Sorts) (out:List DigV) (x:StoredV):Bool:=!hasD out x.id.d&&allD out (needsP σ x.patch)
theorem order1_eq (S:SettingS C σ) {base b3 b4 gm m:Nat} {X:Heap} {s:List StoredV} {out:List DigV} (hs:SetGood s) (h3:blkRow X b3 0 1 0=some [.map gm]) (hgm:X[gm]?=some (.map (entD (graphE σ s)))) (h4:blkRow X b4 0 1 0=some [.map m]) (hm:X[m]?=some (.map (entD (doneE out))))
 {x:StoredV} (hx:x∈s) (K:AV→Heap→Prop) :
 CallW Tryz.prog C base (.fn 101 [.ptr b4 0 1 0 0,.ptr b3 0 1 0 0]) [.agg x.cells] X K=K (.bool (okP σ out x)) X:=by
 have hmX:m<X.length:=(List.getElem?_eq_some_iff.1 hm).1
 have hgX:gm<X.length:=(List.getElem?_eq_some_iff.1 hgm).1
 have hlk:=fun L=>look_done S.toSetting (X:=X++L) (m:=m) (out:=out) (by rw [List.getElem?_append_left hmX];exact hm) x.id
 obtain ⟨j,hj⟩:=pos_graph (σ:=σ) hs.2.1 hx
 have hlg:=fun L=>look_graph S.toSetting (X:=X++L) (m:=gm) (l:=graphE σ s) (by rw [List.getElem?_append_left hgX];exact hgm) x.id hj
 have hnl:=needsP_len S.permD (hs.1 x hx)
 refine CallW.eq (pure_rule (S.pureS _ (by decide)) (func_rule Tryz.func101 rfl (S.prim _ (by decide)) (by simp) (by kernel_rfl) ?_)) K
 unfold Tryz.f101
 have ec:=fun K=>containsD_eq S (base:=X.length) (H:=X++[.rows 37 0 [x.cells]]) (k:=if needL x.patch=[] then .exact else .loose) (l:=needsP σ x.patch) (f:=.fn 102 [.ptr b4 0 1 0 0]) (q:=fun d=>!hasD out d.d) (by omega)
  (fun d _ base K=>order11_eq S (blk_app h4 _) (by rw [List.getElem?_append_left hmX];exact hm) d K) K
 have hall:(needsP σ x.patch).any (fun d=>!hasD out d.d) = !allD out (needsP σ x.patch):=by
  rw [allD,Bool.eq_iff_iff];simp
 rw [hall] at ec
 obtain ⟨kk,hkk⟩:∃kk,kk=(if needL x.patch=[] then SK.exact else SK.loose):=⟨_,rfl⟩
 rw [←hkk] at ec hlg
 unfold okP
 cases hd:hasD out x.id.d with
 | true=>simp [argS,guardV,blk_app h3,blk_app h4,hlk,hd]
 | false=>simp [argS,guardV,blk_app h3,blk_app h4,hlk,hlg,hd,ec]
def ordP (σ:Sorts) (s:List StoredV):Nat→List DigV→List DigV
 | 0,out=>out
 | n+1,out=>match s.find? (okP σ out) with | some x=>ordP σ s n (out++[x.id]) | none=>out
theorem GrowS.freeze {start sz d:Nat} {X:Heap} {v:AV} {rows:List (List AV)} (hg:GrowS start sz X v rows) (hc:AV.closedss rows=true) (hv:(rows=[]∧v=.nils)∨(rows≠[]∧∃b g l,v=.sl b g sz 0 l)):freezeA X start (d+1) v=some (slAV (nlK rows) rows):=by
 rcases hv with ⟨h0,h1⟩ | ⟨h0,b,g,l,h1⟩
 ·rw [h0,h1];simp [nlK,slAV]
 ·have hk:nlK rows=.loose:=by unfold nlK;cases rows with | nil=>exact absurd rfl h0 | cons _ _=>rfl
  rcases hg.2 with ⟨_,h2⟩ | h2 | ⟨b',g',h2,h3⟩
  ·rw [h1] at h2;cases h2
  ·rw [h1] at h2;cases h2
  ·rw [List.getElem?_drop] at h3
   rw [h2,freeze_sl h3 (by omega) hc,hk]
   cases rows<;>rfl
structure OrdSt (σ:Sorts) (s:List StoredV) (st b3 b4 gm m:Nat) (out:List DigV) (v:AV) (X:Heap):Prop where
 h3:blkRow X b3 0 1 0=some [.map gm]
 hg:X[gm]?=some (.map (entD (graphE σ s)))
 h4:blkRow X b4 0 1 0=some [.map m]
 hm:X[m]?=some (.map (entD (doneE out)))
 ne:gm≠m
 low:st≤m
 grow:GrowS st 32 X v (out.map DigV.cells)
 v:(out=[]∧v=.nils)∨(out≠[]∧∃b g l,v=.sl b g 32 0 l)
theorem blk_stays {X X':Heap} {b sz:Nat} {r:List AV} (h:blkRow X b 0 1 0=some r) (hs:Stays sz X X') (hne:sz≠1):blkRow X' b 0 1 0=some r:=by
 unfold blkRow at h ⊢
 cases hb:X[b]? with
 | none=>rw [hb] at h;cases h
 | some blk =>
  rw [hb] at h
  cases blk with
  | rows e g rs =>
   simp only at h
   split at h
   ·rename_i hc
    obtain ⟨rfl,rfl⟩:=hc
    rw [hs b _ hb (by intro g' rs' h';cases h';exact hne rfl)]
    simpa using h
   ·cases h
  | _=>cases h
theorem blk_setm {X:Heap} {b m:Nat} {r:List AV} {es:List (AV×AV)} {x:Blk} (h:blkRow X b 0 1 0=some r) (hm:X[m]?=some (.map es)):blkRow (X.set m x) b 0 1 0=some r:=by
 unfold blkRow at h ⊢
 rw [List.getElem?_set_ne]
 ·exact h
 ·rintro rfl
  rw [hm] at h;cases h
set_option maxRecDepth 100000 in
set_option maxHeartbeats 4000000 in
theorem ret_Order (S:SettingS C σ) (s0:List StoredV) (k:SK) (hs:SetGood s0):Ret Tryz.prog C 53 [] [slAV k (s0.map StoredV.cells)] (slAV (nlK (ordP σ s0 s0.length [])) ((ordP σ s0 s0.length []).map DigV.cells)):=by
 refine ret_pure (S.pureS _ (by decide)) fun H=>func_rule Tryz.func53 rfl (S.prim _ (by decide)) (by simp) (by kernel_rfl) ?_
 unfold Tryz.f53
 obtain ⟨J,eg⟩:=graph_ex S s0 k hs (base:=H.length) (H:=H) (Nat.le_refl _)
 have hlen:=hs.2.2
 refine cut (fun s H'=>s 0=slAV k (s0.map StoredV.cells)∧H'=H) ?_ ?_
 ·simp [argS]
 rintro s X ⟨q0,rfl⟩
 refine cut (fun s H'=>s 0=slAV k (s0.map StoredV.cells)∧s 3=.ptr (X.length+(J.length+1)) 0 1 0 0∧H'=X++.map (entD (graphE σ s0))::(J++[.rows 1 0 [[.map X.length]]])) ?_ ?_
 ·simp [q0,eg,storeA]
  exact ⟨rfl,by decide,rfl,rfl⟩
 rintro s H' ⟨q0,q3,rfl⟩
 refine cut (fun s H'=>s 0=slAV k (s0.map StoredV.cells)∧s 3=.ptr (X.length+(J.length+1)) 0 1 0 0∧s 4=.ptr (X.length+(J.length+3)) 0 1 0 0∧H'=X++.map (entD (graphE σ s0))::(J++[.rows 1 0 [[.map X.length]],.map [],.rows 1 0 [[.map (X.length+(J.length+2))]]])) ?_ ?_
 ·simp [q0,q3,storeA]
  exact ⟨rfl,by decide,rfl,rfl⟩
 rintro s H' ⟨q0,q3,q4,rfl⟩
 obtain ⟨b3,hb3⟩:∃b3,b3=X.length+(J.length+1):=⟨_,rfl⟩
 obtain ⟨b4,hb4⟩:∃b4,b4=X.length+(J.length+3):=⟨_,rfl⟩
 obtain ⟨m,hm⟩:∃m,m=X.length+(J.length+2):=⟨_,rfl⟩
 have hst0:OrdSt σ s0 X.length b3 b4 X.length m [] .nils (X++.map (entD (graphE σ s0))::(J++[.rows 1 0 [[.map X.length]],.map [],.rows 1 0 [[.map (X.length+(J.length+2))]]])):=by
  refine ⟨?_,by simp,?_,?_,by omega,by omega,⟨by simp,.inl ⟨rfl,rfl⟩⟩,.inl ⟨rfl,rfl⟩⟩
  ·rw [hb3];simp [blkRow]
  ·rw [hb4,hm];simp [blkRow]
  ·rw [hm];simp [entD,doneE]
 rw [←hb3] at q3
 rw [←hb4] at q4
 obtain ⟨st,hst⟩:∃st,st=X.length:=⟨_,rfl⟩
 rw [←hst] at hst0
 obtain ⟨X1,hX1⟩:∃X1,X1=(X++.map (entD (graphE σ s0))::(J++[.rows 1 0 [[.map st]],.map [],.rows 1 0 [[.map (st+(J.length+2))]]])):=⟨_,rfl⟩
 rw [←hst]
 rw [←hX1] at hst0 ⊢
 clear hX1 hm hb3 hb4 eg
 refine cut (fun s X=>s 0=slAV k (s0.map StoredV.cells)∧s 3=.ptr b3 0 1 0 0∧s 4=.ptr b4 0 1 0 0∧OrdSt σ s0 st b3 b4 st m [] (s 5) X) ?_ ?_
 ·simp [q0,q3,q4,hst0]
 clear hst0 q0 q3 q4
 rintro s X ⟨q0,q3,q4,hO⟩
 refine cut (fun s X=>∃b3 b4 gm m,OrdSt σ s0 st b3 b4 gm m (ordP σ s0 s0.length []) (s 5) X) ?_ ?_
 rotate_left
 ·rintro s X ⟨b3,b4,gm,m,hO⟩
  simp
  have hf:=hO.grow.freeze (d:=2) (closedss_map DigV.closed _) (by simpa using hO.v)
  have hk:nlK ((ordP σ s0 s0.length []).map DigV.cells)=nlK (ordP σ s0 s0.length []):=by unfold nlK;cases ordP σ s0 s0.length []<;>rfl
  rw [hk] at hf
  exact hf
 simp [q0,q3,q4]
 refine loop_count s0.length (fun i s X=>s 0=slAV k (s0.map StoredV.cells)∧s 3=.ptr b3 0 1 0 0∧s 4=.ptr b4 0 1 0 0∧s 11=.int .i64 s0.length∧s 12=.int .i64 i∧∃out,ordP σ s0 s0.length []=ordP σ s0 (s0.length-i) out∧out.length=i∧OrdSt σ s0 st b3 b4 st m out (s 5) X) ?_ ?_
 ·exact ⟨q0,q3,q4,rfl,rfl,[],rfl,rfl,hO⟩
 clear hO q0 q3 q4
 rintro i s X ⟨q0,q3,q4,q11,q12,out,ho,hol,hO⟩ hi
 by_cases h:i<s0.length
 rotate_left
 ·have h':i=s0.length:=by omega
  rw [h',Nat.sub_self,ordP] at ho
  subst h'
  simp [q0,q3,q4,q11,q12]
  exact ⟨b3,b4,st,m,ho▸hO⟩
 rw [show s0.length-i=(s0.length-(i+1))+1 by omega,ordP] at ho
 have e:=fun (K:AV→Heap→Prop)=>indexS_eq S (base:=st) (H:=X) (k:=k) (l:=s0) (f:=.fn 101 [.ptr b4 0 1 0 0,.ptr b3 0 1 0 0]) (q:=okP σ out) (by omega) (fun x hx base K=>order1_eq S hs hO.h3 hO.hg hO.h4 hO.hm hx K) K
 obtain ⟨i1,i2⟩:=idxQ_find (okP σ out) s0 0
 cases hf:s0.find? (okP σ out) with
 | none =>
  rw [i2 hf] at e
  rw [hf] at ho
  simp [q0,q3,q4,q11,q12,h,e]
  exact ⟨b3,b4,st,m,ho▸hO⟩
 | some x =>
  obtain ⟨j,h1,h2⟩:=i1 x hf
  rw [Nat.zero_add] at h1
  rw [h1] at e
  rw [hf] at ho
  have hj:j<s0.length:=(List.getElem?_eq_some_iff.1 h2).1
  have hjx:s0[j]=x:=by rw [List.getElem?_eq_getElem hj] at h2;exact Option.some.inj h2
  have hok:=List.find?_some hf
  unfold okP at hok
  simp only [Bool.and_eq_true,Bool.not_eq_true'] at hok
  have eu:=upd_done S.toSetting (base:=st) hO.low hO.hm x.id hok.1
  have hmX:m<X.length:=(List.getElem?_eq_some_iff.1 hO.hm).1
  have hgr:=hO.grow.setL (x:=.map (entD (doneE (out++[x.id])))) hO.hm (by intro g rs h;cases h)
  obtain ⟨v',X',ha,hg',hsty,hsl⟩:=hgr.append (P:=Tryz.prog) (base:=st) (ts:=#[60,60]) (e:=25) (xd:=.slice 25) (x:=.lst [x.id.cells] true) (ys:=[x.id.cells])
   (by simp) (by simp) sz25 by25 (by simp [show digest0.length=32 by decide]) (by decide) (Nat.le_refl _) (fun r hr=>by obtain ⟨y,_,rfl⟩:=List.mem_map.1 hr;simp) rfl (by simp) (by simp;omega)
  have hO':OrdSt σ s0 st b3 b4 st m (out++[x.id]) v' X':=by
   refine ⟨blk_stays (blk_setm hO.h3 hO.hm) hsty (by decide),?_,blk_stays (blk_setm hO.h4 hO.hm) hsty (by decide),?_,hO.ne,hO.low,by simpa using hg',.inr ⟨by simp,hsl (by simp)⟩⟩
   ·exact hsty _ _ (by rw [List.getElem?_set_ne (Ne.symm hO.ne)];exact hO.hg) (by intro g rs h;cases h)
   ·exact hsty _ _ (by rw [List.getElem?_set_self hmX]) (by intro g rs h;cases h)
  have hd0:digest0.length=32:=by decide
  have hnj:¬(j:Int)<0:=by omega
  obtain ⟨h4',h3'⟩:=And.intro hO.h4 hO.h3
  simp [q0,q3,q4,q11,q12,h,e,hnj,hj,hjx,h4',eu]
  rw [kOpsU_turn (h:=by kernel_rfl)]
  simp [q0,q3,q4,q11,q12,hj,hjx,buildSliceA,fillRows,hd0,ha,wrap_succ h (by omega)]
  exact ⟨h,out++[x.id],ho,by simp [hol],hO'⟩
end Go.Proofs.Ev
namespace Go.Proofs.Ev
open Go.Proofs
variable {C:Cfg} {σ:Sorts}
def findP (σ:Sorts) (s:List StoredV) (id:IdV):Option AtV:=if hasS s id.d then (atomsP σ (getP s id.d)).find? (fun x=>sameId x.id id) else none
theorem find1_eq (S:SettingS C σ) {base b:Nat} {H:Heap} {id:IdV} (hg:blkRow H b 0 33 0=some id.cells) (x:AtV) (K:AV→Heap→Prop) :
 CallW Tryz.prog C base (.fn 28 [.ptr b 0 33 0 0]) [.agg x.cells] H K=K (.bool (sameId x.id id)) H:=by
 refine CallW.eq (pure_rule (S.pureS _ (by decide)) (func_rule Tryz.func28 rfl (S.prim _ (by decide)) (by simp) (by kernel_rfl) ?_)) K
 unfold Tryz.f28
 have e:=eq_idV S.toSetting
 simp [argS,blk_app hg,e]
theorem getP_good {s:List StoredV} (hs:SetGood s) {d:List Nat} (h:hasS s d=true):(getP s d).Good∧∃x∈s,x.id.d=d∧x.patch=getP s d:=by
 unfold hasS at h
 unfold getP
 cases hf:s.find? (fun x=>decide (x.id.d=d)) with
 | none=>rw [hf] at h;cases h
 | some x =>
  have hm:=List.mem_of_find?_eq_some hf
  exact ⟨hs.1 x hm,x,hm,by simpa using List.find?_some hf,rfl⟩
theorem atomsP_len {p:PatchV} (hp:p.Good):(atomsP σ p).length≤90000:=by rw [atomsP,List.length_map];exact hp.n
set_option maxHeartbeats 2000000 in
theorem ret_Find (S:SettingS C σ) (l:List StoredV) (k:SK) (id:IdV) (hl:SetGood l):Ret Tryz.prog C 8 [] [slAV k (l.map StoredV.cells),.agg id.cells] (.tup [.agg ((findP σ l id).getD zeroAt).cells,.bool (findP σ l id).isSome]):=by
 refine ret_pure (S.pureS _ (by decide)) fun H=>func_rule Tryz.func8 rfl (S.prim _ (by decide)) (by simp) (by kernel_rfl) ?_
 unfold Tryz.f8
 have eg:=(ret_GetP S l k id.dv hl.2.2).eq
 have hdv:id.dv.cells=dig id.d:=rfl
 have hdd:id.dv.d=id.d:=rfl
 rw [hdv,hdd] at eg
 have hfin:∀(X:Heap) (x:AtV) (b:Bool),freezeA X H.length 3 (.tup [.agg x.cells,.bool b])=some (.tup [.agg x.cells,.bool b]):=fun X x b=>freeze_two (freeze_closed (v:=.agg _) (AtV.closed _)) (by simp)
 cases hh:hasS l id.d with
 | false =>
  have hf:findP σ l id=none:=by unfold findP;rw [hh];rfl
  rw [hh] at eg
  simp [argS,eg,storeA,fillA,hf]
  exact hfin _ _ _
 | true =>
  obtain ⟨hpg,_⟩:=getP_good hl hh
  have ea:=(ret_Atoms S.toSettingQ (getP l id.d) hpg).eq
  have hal:=atomsP_len (σ:=σ) hpg
  rw [hh] at eg
  obtain ⟨p,hp⟩:∃p,p=getP l id.d:=⟨_,rfl⟩
  rw [←hp] at eg ea hal
  have hf:findP σ l id=(atomsP σ p).find? (fun x=>sameId x.id id):=by unfold findP;rw [hh,if_pos rfl,hp]
  obtain ⟨L,hL⟩:∃L,L=atomsP σ p:=⟨_,rfl⟩
  rw [←hL] at ea hf hal
  obtain ⟨i1,i2⟩:=idxQ_find (fun x:AtV=>sameId x.id id) L 0
  have hsl:AV.lst (L.map AtV.cells) false=slAV .loose (L.map AtV.cells):=by cases L<;>rfl
  have ei:=fun (K:AV→Heap→Prop)=>indexA_eq S (base:=H.length) (H:=H++[.rows 33 0 [id.cells],.rows 172 0 [zeroAt.cells],.rows 5 0 [p.cells]]) (k:=.loose) (l:=L) (f:=.fn 28 [.ptr H.length 0 33 0 0]) (q:=fun x=>sameId x.id id) (by omega) (fun x _ base K=>find1_eq S (by simp) x K) K
  rw [←hsl] at ei
  rw [hf]
  cases hfd:L.find? (fun x=>sameId x.id id) with
  | none =>
   rw [i2 hfd] at ei
   simp [argS,eg,ea,ei,storeA,fillA]
   exact hfin _ _ _
  | some x =>
   obtain ⟨j,h1,h2⟩:=i1 x hfd
   rw [Nat.zero_add] at h1
   rw [h1] at ei
   have hj:j<L.length:=(List.getElem?_eq_some_iff.1 h2).1
   have hjx:L[j]=x:=by rw [List.getElem?_eq_getElem hj] at h2;exact Option.some.inj h2
   simp [argS,eg,ea,ei,storeA,fillA,hj,hjx,show ¬(j:Int)<0 by omega]
   exact hfin _ _ _
structure SettingT (C:Cfg) (σ:Sorts):Prop extends SettingS C σ where
 pureT:∀f,f∈[22,56,10,7,9]→C.pure f=true
 plainT:∀f,f∈[60,29,109,110,23,24,55]→C.pure f=false∧C.frz f=false
def findE (σ:Sorts) (s:List StoredV) (id:IdV) (k:Int):Int:=match findP σ s id with | none=>7 | some x=>if x.kind=k then 0 else 8
theorem ret_bfind (S:SettingT C σ) (l:List StoredV) (k:SK) (id:IdV) (kd:Int) (hl:SetGood l):Ret Tryz.prog C 22 [] [slAV k (l.map StoredV.cells),.agg id.cells,.int .i64 kd] (.int .i64 (findE σ l id kd)):=by
 refine ret_pure (S.pureT _ (by decide)) fun H=>func_rule Tryz.func22 rfl (S.prim _ (by decide)) (by simp) (by kernel_rfl) ?_
 unfold Tryz.f22 findE
 have e:=(ret_Find S.toSettingS l k id hl).eq
 cases hf:findP σ l id with
 | none =>
  rw [hf] at e
  simp only [Option.getD_none,Option.isSome_none] at e
  simp [argS,e,storeA,fillA]
 | some x =>
  rw [hf] at e
  simp only [Option.getD_some,Option.isSome_some] at e
  by_cases hk:x.kind=kd
  ·simp [argS,e,storeA,fillA,hk]
  ·simp [argS,e,storeA,fillA,hk]
end Go.Proofs.Ev
namespace Go.Proofs.Ev
open Go.Proofs
noncomputable def primT (p:Nat→List AV→Heap→Option (AV×Heap)) (f:FuncId):Option (Nat→List AV→Heap→Option (AV×Heap)) :=
 if f=145 then some pItoa else
 if f=394 then some pCopy else
 if f=325 then some pStr else
 if f=128 then some pCmp else
 if f=311 then some pIdx else
 if f=104 then some (pSort idE cmpI 91) else
 if f=133 then some (pSort digE (fun a b=>cmpD a.d b.d) 76) else
 if f=131 then some pClone else
 if f=134 then some pCompact else
 if f=6 then some p else
 none
def pureT:List FuncId:=[169,70,34,330,331,120,332,16,184,185,123,336,378,186,376,328,327,262,329,377,395,264,171,170,114,270,335,333,334,268,269,176,177,172,266,267,173,115,65,68,265,181,180,178,116,179,117,66,33,69,37,35,182,38,272,271,183,119,124,118,121,122,71,39,14,13,32,5,64,113,189,125,190,273,188,127,73,76,322,372,323,256,258,107,314,315,319,312,313,316,317,318,320,321,250,165,161,222,150,91,369,310,252,251,162,199,193,194,195,196,197,198,254,130,72,40,106,59,26,78,57,129,77,27,103,159,25,58,53,101,102,54,8,28,22,56,10,7,9,112,61,62,11,12]
def frzT:List FuncId:=[263,174,67,36,259,163,6]
def kindsT (t:TypeId):Option (List LK):=if t=25 then some (List.replicate 32 (.int .u8)) else if t=27 then some (List.replicate 32 (.int .u8)++[.int .i64]) else if t=51 then some (List.replicate 32 (.int .u8)++[.int .i64]++(List.replicate 32 (.int .u8)++[.int .i64])++[.str]) else none
noncomputable def cfgT (p:Nat→List AV→Heap→Option (AV×Heap)):Cfg:=⟨primT p,fun f=>decide (f∈pureT),fun f=>decide (f∈frzT),kindsT⟩
noncomputable def sigT:Sorts:=⟨sortL cmpI,sortL fun a b:DigV=>cmpD a.d b.d⟩
variable {p:Nat→List AV→Heap→Option (AV×Heap)} {N:Low}
theorem primT_none {f:FuncId} (h:f∉[145,394,325,128,311,104,133,131,134,6]):primT p f=none:=by
 simp only [List.mem_cons,List.not_mem_nil,or_false,not_or] at h
 obtain ⟨h0,h1,h2,h3,h4,h5,h6,h7,h8,h9⟩:=h
 unfold primT
 rw [if_neg h0,if_neg h1,if_neg h2,if_neg h3,if_neg h4,if_neg h5,if_neg h6,if_neg h7,if_neg h8,if_neg h9]
theorem allP {L:List FuncId} (h:(L.all fun f=>decide (f∈pureT))=true):∀f,f∈L→(cfgT p).pure f=true:=fun f hf=>List.all_eq_true.1 h f hf
theorem allF {L:List FuncId} (h:(L.all fun f=>!decide (f∈pureT)&&decide (f∈frzT))=true):∀f,f∈L→(cfgT p).pure f=false∧(cfgT p).frz f=true:=fun f hf=>by
 have h1:=List.all_eq_true.1 h f hf
 rw [Bool.and_eq_true,Bool.not_eq_true'] at h1
 exact h1
theorem allN {L:List FuncId} (h:(L.all fun f=>!decide (f∈pureT)&&!decide (f∈frzT))=true):∀f,f∈L→(cfgT p).pure f=false∧(cfgT p).frz f=false:=fun f hf=>by
 have h1:=List.all_eq_true.1 h f hf
 rw [Bool.and_eq_true,Bool.not_eq_true',Bool.not_eq_true'] at h1
 exact h1
theorem primT_0:(cfgT p).prim 145=some pItoa:=rfl
theorem primT_1:(cfgT p).prim 394=some pCopy:=rfl
theorem primT_2:(cfgT p).prim 325=some pStr:=rfl
theorem primT_3:(cfgT p).prim 128=some pCmp:=rfl
theorem primT_4:(cfgT p).prim 311=some pIdx:=rfl
theorem primT_5:(cfgT p).prim 104=some (pSort idE cmpI 91):=rfl
theorem primT_6:(cfgT p).prim 133=some (pSort digE (fun a b=>cmpD a.d b.d) 76):=rfl
theorem primT_7:(cfgT p).prim 131=some pClone:=rfl
theorem primT_8:(cfgT p).prim 134=some pCompact:=rfl
theorem primT_9:(cfgT p).prim 6=some p:=rfl
theorem isSetting:Setting (cfgT p):={
 pure:=allP (by kernel_rfl)
 prim:=fun f hf=>primT_none (by intro h;apply hf;revert h;simp only [List.mem_cons,List.not_mem_nil,or_false];grind)
 kDig:=rfl
 kId:=rfl }
theorem isSetting2:Setting2 (cfgT p):={
 toSetting:=isSetting
 pure2:=allP (by kernel_rfl)
 frz2:=allF (by kernel_rfl) }
theorem isSetting3:Setting3 (cfgT p):={
 toSetting2:=isSetting2
 pure3:=allP (by kernel_rfl) }
theorem isSetting4:Setting4 (cfgT p):={
 toSetting3:=isSetting3
 pure4:=allP (by kernel_rfl)
 frz4:=allF (by kernel_rfl)
 plain4:=allN (by kernel_rfl) }
theorem isSetting5:Setting5 (cfgT p):={
 toSetting4:=isSetting4
 pure5:=allP (by kernel_rfl) }
theorem isSetting6:Setting6 (cfgT p):={
 toSetting5:=isSetting5
 pure6:=allP (by kernel_rfl) }
theorem isSetting7:Setting7 (cfgT p):={
 toSetting6:=isSetting6
 frz7:=allF (by kernel_rfl)
 pure7:=allP (by kernel_rfl) }
theorem isSetting8:Setting8 (cfgT p):={
 toSetting7:=isSetting7
 pure8:=allP (by kernel_rfl) }
theorem isSettingA:SettingA (cfgT p):={
 toSetting8:=isSetting8
 pureA:=allP (by kernel_rfl)
 plainA:=allN (by kernel_rfl) }
theorem isSettingD:SettingD (cfgT p):={
 toSettingA:=isSettingA
 pureD:=allP (by kernel_rfl)
 frzD:=allF (by kernel_rfl)
 plainD:=allN (by kernel_rfl)
 copy:=fun hb hg ha K=>copy_call primT_1 rfl rfl hb hg ha K
 str:=fun hb hg hn hl hv=>str_call primT_2 rfl rfl hb hg hn hl hv
 itoa:=fun n l1 l2 base H K=>itoa_call primT_0 rfl rfl n l1 l2 base H K }
theorem isSettingF:SettingF (cfgT p):={
 toSettingD:=isSettingD
 pureF:=allP (by kernel_rfl)
 plainF:=allN (by kernel_rfl) }
theorem isSettingG:SettingG (cfgT p):={
 toSettingF:=isSettingF
 pureG:=allP (by kernel_rfl) }
theorem isSettingH:SettingH (cfgT p):={
 toSettingG:=isSettingG
 pureH:=allP (by kernel_rfl)
 cmpB:=fun hl hx hy ha hb K=>cmp_call primT_3 rfl rfl hl hx hy ha hb K }
theorem isSettingI:SettingI (cfgT p):={
 toSettingH:=isSettingH
 pureI:=allP (by kernel_rfl) }
theorem isSettingJ:SettingJ (cfgT p):={
 toSettingI:=isSettingI
 pureJ:=allP (by kernel_rfl)
 plainJ:=allN (by kernel_rfl)
 idxB:=fun s c=>idx_call primT_4 rfl rfl s c }
theorem isSettingK:SettingK (cfgT p):={
 toSettingJ:=isSettingJ
 pureK:=allP (by kernel_rfl) }
theorem isSettingL:SettingL (cfgT p):={
 toSettingK:=isSettingK
 pureL:=allP (by kernel_rfl)
 plainL:=allN (by kernel_rfl) }
theorem isSettingM:SettingM (cfgT p):={
 toSettingL:=isSettingL
 frzM:=allF (by kernel_rfl) }
theorem isSettingN:SettingN (cfgT p):={
 toSettingM:=isSettingM
 pureN:=allP (by kernel_rfl)
 plainN:=allN (by kernel_rfl) }
theorem isSettingO:SettingO (cfgT p):={
 toSettingN:=isSettingN
 plainO:=allN (by kernel_rfl) }
theorem isSettingP:SettingP (cfgT p):={
 toSettingO:=isSettingO
 pureP:=allP (by kernel_rfl) }
theorem isSettingQ:SettingQ (cfgT p) sigT:={
 toSettingP:=isSettingP
 permI:=sortL_perm swo_id
 sortI:=fun hl hb hg K=>prim_call primT_5 rfl rfl (pSort_eq idE IdV.cells_inj cmpI _ hb hl hg) K
 sortI0:=fun K=>prim_call primT_5 rfl rfl rfl K }
theorem isSettingR:SettingR (cfgT p) sigT:={
 toSettingQ:=isSettingQ
 permD:=sortL_perm swo_dig
 sortD:=fun hl hb hg K=>prim_call primT_6 rfl rfl (pSort_eq digE DigV.cells_inj _ _ hb hl hg) K
 sortD0:=fun K=>prim_call primT_6 rfl rfl rfl K
 cloneD:=fun hl K=>clone_call primT_7 rfl rfl hl K
 compD:=fun hl hb hg=>⟨_,fun K=>prim_call primT_8 rfl rfl (compact_eq hb hg hl) K⟩
 compD0:=fun K=>prim_call primT_8 rfl rfl (compact_eq0 _ _) K }
theorem isSettingS:SettingS (cfgT p) sigT:={
 toSettingR:=isSettingR
 pureS:=allP (by kernel_rfl)
 plainS:=allN (by kernel_rfl) }
theorem isSettingT:SettingT (cfgT p) sigT:={
 toSettingS:=isSettingS
 pureT:=allP (by kernel_rfl)
 plainT:=allN (by kernel_rfl) }
theorem kindsT_ok:∀t ks,kindsT t=some ks→flatKinds Tryz.prog 20 t=some ks∧Tryz.prog.eqGuardType Tryz.prog.depth t=false∧isAggT Tryz.prog t=some true:=by
 intro t ks h
 unfold kindsT at h
 split at h
 ·rename_i ht;subst ht;cases h;exact ⟨by kernel_rfl,by kernel_rfl,by kernel_rfl⟩
 ·split at h
  ·rename_i ht;subst ht;cases h;exact ⟨by kernel_rfl,by kernel_rfl,by kernel_rfl⟩
  ·split at h
   ·rename_i ht;subst ht;cases h;exact ⟨by kernel_rfl,by kernel_rfl,by kernel_rfl⟩
   ·cases h
theorem soundT (hT:TagOK Tryz.prog N) (hG:TagHere N) (hL:LowTab N) (hp:PrimOK Tryz.prog N 6 p):(cfgT p).Sound Tryz.prog N:={
 fits:=⟨kindsT_ok⟩
 mixed:=by kernel_rfl
 tag:=hT
 names:=names_ok
 prim f q h:=by
  change primT p f=some q at h
  unfold primT at h
  split at h
  ·rename_i hf;subst hf;cases h;exact itoa_ok hL
  split at h
  ·rename_i hf;subst hf;cases h;exact copy_ok hG
  split at h
  ·rename_i hf;subst hf;cases h;exact str_ok hG
  split at h
  ·rename_i hf;subst hf;cases h;exact cmp_ok N
  split at h
  ·rename_i hf;subst hf;cases h;exact idx_ok N
  split at h
  ·rename_i hf;subst hf;cases h;exact sortI_ok hT
  split at h
  ·rename_i hf;subst hf;cases h;exact sortD_ok hT
  split at h
  ·rename_i hf;subst hf;cases h;exact clone_ok hT
  split at h
  ·rename_i hf;subst hf;cases h;exact compact_ok hT
  split at h
  ·rename_i hf;subst hf;cases h;exact hp
  cases h }
end Go.Proofs.Ev
namespace Go.Proofs.Ev
open Go.Proofs
variable {N:Low} {φ:Phi} {H:Heap} {w w':World}
theorem run_copy1 {dT sT ty:TypeId} (hu:Program.underlying Tryz.prog dT=some (.slice 104)) {k o dl dc sl sc:Nat} {a:Addr} {X:List Value} (hX:X.length=37) (hm:Nat.min sl dl=1) (hl:∀j v,X[j]?=some v→w.cell? (a.add j)=some v) (h1:∀v∈X,v.oneCell'=true)
 {cur:Array Value} {T:TypeId} {fr:Nat×Nat} (hd:w.heap[k]?=some (.cells cur T fr)) (hf:o+37≤cur.size) (hfr:FreeTo fr cur.size) :
 (Builtin.copy_ #[dT,sT] ty #[.slice (some ⟨k,o,none⟩) dl dc,.slice (some a) sl sc]).run Tryz.prog w=.ok (.int .i64 1) (putBlk w k (.cells (spl cur o X) T fr)):=by
 have hld:=run_loadCells_list (P:=Tryz.prog) (w:=w) a X hl
 have hst:=run_storeCells_spl (P:=Tryz.prog) k o T fr X 0 cur w hd (by omega) hfr h1
 rw [Nat.add_zero] at hst
 rw [hX] at hld
 have hz:∀w0:World,(sizeOf 104).run Tryz.prog w0=.ok 37 w0:=Tryz.sizeOf104
 simp [Builtin.copy_,run_underlying hu,Builtin.lenOf,hm,hz,Builtin.firstCells,hld,hst,goInt]
theorem run_over0 {P:Program} (tS tR e:TypeId) (ht:P.underlying tS=some (.slice e)) (size:Nat) (hz:∀w,(sizeOf e).run P w=.ok size w) {a b:Addr} {la ca lb cb:Nat} (hne:a.block≠b.block) {tA tB:TypeId} {kA kB:Nat} (hsa:w.shape? a.block=some (tA,kA)) (hsb:w.shape? b.block=some (tB,kB)) (hkA:kA≠0) (hfb:w.frozen? b=false) (hfe:w.frozen? { block:=b.block,off:=kB }=false) :
 (Extern.SlicesOverlaps.overlaps #[tS,tS] #[tR] #[.slice (some a) la ca,.slice (some b) lb cb]).run P w=.ok (.bool false) w:=by
 have hnb':(a.block==b.block)=false:=by simpa using hne
 delta Extern.SlicesOverlaps.overlaps
 delta Extern.SlicesOverlaps.overlaps.match_4
 dsimp -zeta only
 rw [dif_pos (show (#[Value.slice (some a) la ca,Value.slice (some b) lb cb]:Array Value).size=2 from rfl)]
 by_cases h0:la=0∨lb=0∨size=0
 ·simp [Array.getLit,run_underlying ht,hz,h0]
 ·cases kA with
  | zero=>exact absurd rfl hkA
  | succ kA =>
   cases hfa:w.frozen? a<;>cases hfe2:w.frozen? { block:=a.block,off:=kA+1 } <;>
    simp [Array.getLit,run_underlying ht,hz,h0,hnb',frozen,noView,viewAt,mayBeOne,stringish,shape,Sem.run,hsa,hsb,hfa,hfb,hfe,hfe2]
set_option maxRecDepth 100000 in
set_option maxHeartbeats 4000000 in
theorem call_ins1 {bs:Nat} {cs:Array Value} {T:TypeId} {fr:Nat×Nat} {A B:List Value} {av:Addr} {capv:Nat} {Tv:TypeId} {cv:Array Value} {fv:Nat×Nat}
 (hs:w.heap[bs]?=some (.cells cs T fr)) (hv:w.heap[av.block]?=some (.cells cv Tv fv)) (hsp:av.spot=none) (hne:av.block≠bs)
 (hA:A.length=37) (hA1:∀v∈A,v.oneCell'=true) (hAc:∀(j:Nat) (v:Value),A[j]?=some v→cs[j]?=some v)
 (hB:B.length=37) (hB1:∀v∈B,v.oneCell'=true) (hBc:∀(j:Nat) (v:Value),B[j]?=some v→cv[av.off+j]?=some v) :
 CallsIn (Fw none) 0 Tryz.prog 46 #[.slice (some ⟨bs,0,none⟩) 1 1,.int .i64 0,.slice (some av) 1 capv] w
  fun e w2=>∃newCap Z,2≤newCap∧Z.size=newCap*37∧e=.returned (.slice (some ⟨w.heap.size,0,none⟩) 2 newCap)∧w2.heap.size=w.heap.size+1∧w2.heap[w.heap.size]?=some (.cells (spl (spl Z 0 B) 37 A) 104 (0,0))∧SameEnv w w2∧∀k,k<w.heap.size→w2.heap[k]?=w.heap[k]?:=by
 have hbs:bs<w.heap.size:=(Array.getElem?_eq_some_iff.1 hs).1
 have hbv:av.block<w.heap.size:=(Array.getElem?_eq_some_iff.1 hv).1
 obtain ⟨bv,ov,spv⟩:=av
 simp only at hsp hv hne hbv hBc
 subst hsp
 have hadd:∀b o j:Nat,((⟨b,o,none⟩:Addr).add j)=⟨b,o+j,none⟩:=fun b o j=>by by_cases hj:j=0<;>simp [Addr.add,hj]
 have mixed:Tryz.prog.follows .mixedOrders=true:=by kernel_rfl
 refine callsIn_of_wp Tryz.func46 rfl trivial ?_ rfl
 have hn:Tryz.f46.ntmps=95:=rfl
 simp only [hn,List.size_toArray,List.length_cons,List.length_nil,Nat.reduceAdd,Nat.reduceSub,Array.replicate_succ,Array.replicate_zero,List.push_toArray,List.append_toArray,List.nil_append,List.cons_append]
 gi_wp2
 have hcut:2≤(Question.appendCap 2 1 104).cut (w.tape w.drawn (Question.appendCap 2 1 104)):=by simp [Question.cut]
 generalize (Question.appendCap 2 1 104).cut (w.tape w.drawn (Question.appendCap 2 1 104))=newCap at *
 obtain ⟨Zv,hZv,hZs0⟩:∃Zv:Array Value,Zv=(List.replicate 32 (Value.int .u8 0)++[Value.string ⟨#[]⟩,Value.string ⟨#[]⟩,Value.int .i64 0,Value.slice none 0 0,Value.slice none 0 0]).toArray∧Zv.size=37:=⟨_,rfl,rfl⟩
 simp only [List.replicate_succ,List.replicate_zero,List.nil_append,List.cons_append] at hZv
 rw [←hZv]
 obtain ⟨Z,hZ⟩:∃Z,Z=Builtin.zeroCells Zv 2++Builtin.zeroCells Zv (newCap-2):=⟨_,rfl⟩
 have hZs:Z.size=newCap*37:=by rw [hZ];simp [Builtin.zeroCells,hZs0];omega
 rw [←hZ]
 clear hZ hZv hZs0 Zv
 generalize hW1:(w.alloc (.cells Z 104 (0,0))).drew=W1
 have hg1:W1.heap[w.heap.size]?=some (.cells Z 104 (0,0)):=by rw [←hW1];exact heap_alloc_new (w:=w)
 have ho1:∀k,k<w.heap.size→W1.heap[k]?=w.heap[k]?:=fun k hk=>by rw [←hW1];exact heap_alloc_old (w:=w) hk
 have hsz1:W1.heap.size=w.heap.size+1:=by rw [←hW1];simp [World.drew]
 have he1:SameEnv w W1:=by rw [←hW1];exact .refl
 have hs1:=(ho1 bs hbs).trans hs
 have hv1:=(ho1 bv hbv).trans hv
 have hC1:=run_copy1 (w:=W1) (dT:=23) (sT:=22) (ty:=3) Tryz.underlying23 (k:=w.heap.size) (o:=0) (dl:=2) (dc:=newCap) (sl:=1) (sc:=capv) (a:=⟨bv,ov,none⟩) hB rfl (fun j v hj=>by
  rw [hadd];simp only [World.cell?,hv1];exact hBc j v hj) hB1 hg1 (by omega) (.zero _)
 rw [hC1]
 simp only [Result.andThen]
 generalize hW2:putBlk W1 w.heap.size (.cells (spl Z 0 B) 104 (0,0))=W2
 have hZ2:(spl Z 0 B).size=Z.size:=spl_size (by omega)
 have hg2:W2.heap[w.heap.size]?=some (.cells (spl Z 0 B) 104 (0,0)):=by rw [←hW2];exact putBlk_same (by omega)
 have ho2:∀k,k<w.heap.size→W2.heap[k]?=w.heap[k]?:=fun k hk=>by rw [←hW2];exact (putBlk_other (by omega)).trans (ho1 k hk)
 have hsz2:W2.heap.size=w.heap.size+1:=by rw [←hW2];simpa using hsz1
 have he2:SameEnv w W2:=by rw [←hW2];exact he1
 have hs2:=(ho2 bs hbs).trans hs
 have hC2:=run_copy1 (w:=W2.drew) (dT:=23) (sT:=23) (ty:=3) Tryz.underlying23 (k:=w.heap.size) (o:=37) (dl:=1) (dc:=newCap-1) (sl:=1) (sc:=1) (a:=⟨bs,0,none⟩) hA rfl (fun j v hj=>by
  have hs2':W2.drew.heap[bs]?=some (.cells cs T fr):=hs2
  rw [hadd];simp only [World.cell?,hs2',Nat.zero_add];exact hAc j v hj) hA1 hg2 (by omega) (.zero _)
 have hle:(1:Int)≤newCap:=by omega
 clear hC1 hW1 hW2
 gi_wp2
 gi_region
 gi_wp2
 go_ret
 refine ⟨newCap,Z,hcut,hZs,rfl,by simpa using hsz2,putBlk_same (by show w.heap.size<W2.heap.size;omega),he2,fun k hk=>(putBlk_other (by omega)).trans (ho2 k hk)⟩
set_option maxRecDepth 100000 in
set_option maxHeartbeats 4000000 in
theorem call_ins2 {bs cap:Nat} {cs:Array Value} {T:TypeId} {fr:Nat×Nat} {A B:List Value} {av:Addr} {capv:Nat} {Tv:TypeId} {cv:Array Value} {fv:Nat×Nat}
 (hs:w.heap[bs]?=some (.cells cs T fr)) (hv:w.heap[av.block]?=some (.cells cv Tv fv)) (hsp:av.spot=none) (hne:av.block≠bs) (hcap:2≤cap) (hfit:cap*37≤cs.size) (hfr:FreeTo fr (cs.size+1))
 (hA:A.length=37) (hA1:∀v∈A,v.oneCell'=true) (hAc:∀(j:Nat) (v:Value),A[j]?=some v→cs[j]?=some v)
 (hB:B.length=37) (hB1:∀v∈B,v.oneCell'=true) (hBc:∀(j:Nat) (v:Value),B[j]?=some v→cv[av.off+j]?=some v) :
 CallsIn (Fw none) 0 Tryz.prog 46 #[.slice (some ⟨bs,0,none⟩) 1 cap,.int .i64 0,.slice (some av) 1 capv] w
  fun e w2=>e=.returned (.slice (some ⟨bs,0,none⟩) 2 cap)∧w2=putBlk w.drew bs (.cells (spl (spl cs 37 A) 0 B) T fr):=by
 have hbs:bs<w.heap.size:=(Array.getElem?_eq_some_iff.1 hs).1
 have hbv:av.block<w.heap.size:=(Array.getElem?_eq_some_iff.1 hv).1
 have hfr0:FreeTo fr cs.size:=fun off h=>hfr off (by omega)
 obtain ⟨bv,ov,spv⟩:=av
 simp only at hsp hv hne hbv hBc
 subst hsp
 have hadd:∀b o j:Nat,((⟨b,o,none⟩:Addr).add j)=⟨b,o+j,none⟩:=fun b o j=>by by_cases hj:j=0<;>simp [Addr.add,hj]
 have mixed:Tryz.prog.follows .mixedOrders=true:=by kernel_rfl
 have hcvz:cv.size≠0:=by
  have h0:B[0]?=some B[0]:=List.getElem?_eq_getElem (by omega)
  have:=(Array.getElem?_eq_some_iff.1 (hBc 0 _ h0)).1
  omega
 have hO:=run_over0 (P:=Tryz.prog) (w:=w) 22 4 104 Tryz.underlying22 37 Tryz.sizeOf104 (a:=⟨bv,ov,none⟩) (b:=⟨bs,37,none⟩) (la:=1) (ca:=capv) (lb:=1) (cb:=cap-1) hne (tA:=Tv) (tB:=T) (kA:=cv.size) (kB:=cs.size) (by simp [World.shape?,hv]) (by simp [World.shape?,hs]) hcvz
  (by simp only [World.frozen?,hs];rw [Bool.eq_false_iff];intro hh;exact hfr 37 (by omega) (by simpa using hh)) (by simp only [World.frozen?,hs];rw [Bool.eq_false_iff];intro hh;exact hfr cs.size (by omega) (by simpa using hh))
 have hC1:=run_copy1 (w:=w.drew) (dT:=23) (sT:=23) (ty:=3) Tryz.underlying23 (k:=bs) (o:=37) (dl:=1) (dc:=cap-1) (sl:=2) (sc:=cap) (a:=⟨bs,0,none⟩) hA rfl (fun j v hj=>by
  have hs':w.drew.heap[bs]?=some (.cells cs T fr):=hs
  rw [hadd];simp only [World.cell?,hs',Nat.zero_add];exact hAc j v hj) hA1 hs (by omega) hfr0
 generalize hW1:putBlk w.drew bs (.cells (spl cs 37 A) T fr)=W1 at hC1
 have hZ1:(spl cs 37 A).size=cs.size:=spl_size (by omega)
 have hg1:W1.heap[bs]?=some (.cells (spl cs 37 A) T fr):=by rw [←hW1];exact putBlk_same hbs
 have hv1:W1.heap[bv]?=some (.cells cv Tv fv):=by rw [←hW1];exact (putBlk_other (Ne.symm hne)).trans hv
 have hC2:=run_copy1 (w:=W1) (dT:=23) (sT:=22) (ty:=3) Tryz.underlying23 (k:=bs) (o:=0) (dl:=2) (dc:=cap) (sl:=1) (sc:=capv) (a:=⟨bv,ov,none⟩) hB rfl (fun j v hj=>by
  rw [hadd];simp only [World.cell?,hv1];exact hBc j v hj) hB1 hg1 (by omega) (by rw [hZ1];exact hfr0)
 have hle:¬((cap:Int)<2):=by omega
 have hle2:(2:Int)≤cap:=by omega
 refine callsIn_of_wp Tryz.func46 rfl trivial ?_ rfl
 have hn:Tryz.f46.ntmps=95:=rfl
 simp only [hn,List.size_toArray,List.length_cons,List.length_nil,Nat.reduceAdd,Nat.reduceSub,Array.replicate_succ,Array.replicate_zero,List.push_toArray,List.append_toArray,List.nil_append,List.cons_append]
 gi_wp2
 rw [run_callFunc_extern Tryz.func82 (by kernel_rfl) (by kernel_rfl) (by kernel_rfl) (e:=Extern.SlicesOverlaps.overlaps #[22,22] #[4]) (by kernel_rfl),hO]
 simp only [Result.andThen]
 gi_wp2
 gi_region
 gi_wp2
 go_ret
 exact ⟨rfl,by rw [←hW1,putBlk_putBlk]⟩
theorem row_list {n:Nat} {φ:Phi} {w:World} {cs:Array Value}:∀{row:List AV} {o:Nat},(∀(j:Nat) (v:AV),row[j]?=some v→v.leaf=true∧∃V,cs[o+j]?=some V∧RV φ n w v V)→
 ∃A:List Value,A.length=row.length∧(∀v∈A,v.oneCell'=true)∧(∀(j:Nat) (v:Value),A[j]?=some v→cs[o+j]?=some v)∧∀(j:Nat) (v:AV),row[j]?=some v→∃V,A[j]?=some V∧RV φ n w v V
 | [],o,_=>⟨[],rfl,by simp,by simp,by simp⟩
 | x::row,o,h=>by
  obtain ⟨hl,V,h1,h2⟩:=h 0 x rfl
  obtain ⟨A,a1,a2,a3,a4⟩:=row_list (row:=row) (o:=o+1) fun j v hj=>by
   have:=h (j+1) v hj
   rwa [show o+(j+1)=o+1+j by omega] at this
  refine ⟨V::A,by simp [a1],fun v hv=>?_,fun j v hj=>?_,fun j v hj=>?_⟩
  ·rcases List.mem_cons.1 hv with rfl | hv
   ·exact h2.oneCell hl
   ·exact a2 v hv
  ·cases j with
   | zero=>simp at hj;subst hj;simpa using h1
   | succ j=>rw [show o+(j+1)=o+1+j by omega];exact a3 j v hj
  ·cases j with
   | zero=>simp at hj;subst hj;exact ⟨V,rfl,h2⟩
   | succ j=>exact a4 j v hj
theorem rows_two {n:Nat} {Z:Array Value} {A B:List Value} {r q:List AV} (hZ:2*37≤Z.size) (hr:r.length=37) (hq:q.length=37) (hA:A.length=37) (hB:B.length=37) {C:Array Value} (hC:C.size=Z.size)
 (c0:∀j,j<37→C[j]?=B[j]?) (c1:∀j,j<37→C[37+j]?=A[j]?)
 (rB:∀(j:Nat) (v:AV),r[j]?=some v→v.leaf=true∧∃V,B[j]?=some V∧RV φ n w v V) (rA:∀(j:Nat) (v:AV),q[j]?=some v→v.leaf=true∧∃V,A[j]?=some V∧RV φ n w v V):RowsAt φ n w 37 [r,q] C:=by
 refine ⟨by rw [hC];exact hZ,fun i row hi=>?_⟩
 match i,hi with
 | 0,hi =>
  simp at hi;subst hi
  refine ⟨hr,fun j v hj=>?_⟩
  obtain ⟨a,V,b,c⟩:=rB j v hj
  have:=lt_of_get hj
  exact ⟨a,V,by rw [Nat.zero_mul,Nat.zero_add,c0 j (by omega)];exact b,c⟩
 | 1,hi =>
  simp at hi;subst hi
  refine ⟨hq,fun j v hj=>?_⟩
  obtain ⟨a,V,b,c⟩:=rA j v hj
  have:=lt_of_get hj
  exact ⟨a,V,by rw [Nat.one_mul,c1 j (by omega)];exact b,c⟩
 | i+2,hi=>simp at hi
def pIns (base:Nat) (args:List AV) (H:Heap):Option (AV×Heap) :=
 match args with
 | [.nils,.int .i64 0,.lst [r] _]=>if r.length=37 then some (.sl H.length 0 37 0 1,H++[.rows 37 0 [r]]) else none
 | [.sl b g 37 0 1,.int .i64 0,.lst [r] _] =>
  match H[b]? with
  | some (.rows 37 g' [q])=>if base≤b∧g=g'∧r.length=37 then some (.sl b (4*g'+4) 37 0 2,H.set b (.rows 37 (4*g'+4) [r,q])) else none
  | _=>none
 | _=>none
theorem two_three {α β:Type} {R:α→β→Prop} {a b c:α} {Vs:Array β} (h:Two R [a,b,c] Vs.toList):∃X Y Z,Vs=#[X,Y,Z]∧R a X∧R b Y∧R c Z:=by
 obtain ⟨l⟩:=Vs
 cases h with
 | cons h1 t =>
  cases t with
  | cons h2 t =>
   cases t with
   | cons h3 t =>
    cases t
    exact ⟨_,_,_,rfl,h1,h2,h3⟩
theorem ins_nil (base:Nat) (H:Heap) (r:List AV) (x:Bool) (hr:r.length=37):FuncW Tryz.prog cfg0 base 46 [.nils,.int .i64 0,.lst [r] x] H fun v X=>v=.sl H.length 0 37 0 1∧X=H++[.rows 37 0 [r]]:=by
 refine func_rule Tryz.func46 rfl rfl (by simp) (by kernel_rfl) ?_
 unfold Tryz.f46
 have ha:=app_first (P:=Tryz.prog) (base:=base) (ts:=#[23,22]) (e:=104) (e':=104) (by simp) (by simp) sz104 by104 (by simp [show digest0.length=32 by decide]) (by decide) H (x:=x) hr (by decide)
 have hs:sliceA Tryz.prog 23 (.lst [] true) (some (.int .i64 0)) none none=some (.lst [] true):=by kernel_rfl
 simp [argS,ha,hs,AV.denil]
theorem ins_ok (hT:TagOK Tryz.prog N):PrimOK Tryz.prog N 46 pIns:=by
 refine ⟨⟨_,Tryz.func46,rfl⟩,fun base args H v H' h φ w Vs hb hH ht=>?_⟩
 unfold pIns at h
 split at h
 ·rename_i r x
  split at h
  ·rename_i hr
   cases h
   obtain ⟨n,v1,X,h1,rfl,rfl⟩:=ins_nil base H r x hr
   exact ((all_ok (cfg0_sound hT) n).2.2.2.2.1 base _ _ H _ _ h1).2 hb hH ht
  ·cases h
 ·rename_i b g r x
  split at h
  ·rename_i g' q hblk
   split at h
   ·rename_i hc
    obtain ⟨hbb,rfl,hr⟩:=hc
    cases h
    obtain ⟨X,Y,V,rfl,h1,h2,h3⟩:=two_three ht
    obtain ⟨L,cs,T,fr,e1,e2,e3,e4,e5,e6⟩:=hH.rows _ _ _ _ hblk
    have hq:=(e6.2 0 q rfl).1
    obtain ⟨A,a1,a2,a3,a4⟩:=row_list (row:=q) (o:=0) (cs:=cs) (φ:=φ) (n:=H.length) (w:=w) fun j v hj=>by
     obtain ⟨x1,V,x2,x3⟩:=(e6.2 0 q rfl).2 j v hj
     exact ⟨x1,V,by simpa using x2,x3⟩
    simp only [Nat.zero_add] at a3
    cases h2
    cases h1 with
    | sl hbn hcap hh =>
     rename_i cap a
     obtain ⟨ha,hfit⟩:=(hh L e1).2 e2.symm
     simp only [Nat.zero_mul,Nat.zero_add] at ha hfit
     subst ha
     have hH':=hH
     cases h3 with
     | lst Us esz hlen hcv he hbv hrv =>
      rename_i bv lv capv
      have hl1:lv=1:=hlen
      subst hl1
      obtain ⟨cb,off,rfl,hrow⟩:=hbv (by simp)
      obtain ⟨hre,hcell⟩:=hrow 0 r rfl
      have hez:esz=37:=by rw [←hre];exact hr
      obtain ⟨c0,hc0⟩:∃v,r[0]?=some v:=⟨r[0]'(by omega),List.getElem?_eq_getElem _⟩
      obtain ⟨_,hnl,hw0⟩:=hcell 0 c0 hc0
      have hne:cb≠L.cb:=fun h=>hnl.1 b L e1 h.symm
      obtain ⟨cv,Tv,fv,hv⟩:∃cv Tv fv,w.heap[cb]?=some (.cells cv Tv fv):=by
       simp only [World.cell?] at hw0
       cases hg:w.heap[cb]? with
       | none=>rw [hg] at hw0;cases hw0
       | some o =>
        rw [hg] at hw0
        cases o with
        | cells c T fr=>exact ⟨c,T,fr,rfl⟩
        | _=>cases hw0
      obtain ⟨B,b1,b2,b3,b4⟩:=row_list (row:=r) (o:=off) (cs:=cv) (φ:=φ) (n:=H.length) (w:=w) fun j v hj=>by
       obtain ⟨x1,_,x2⟩:=hcell j v hj
       simp only [World.cell?,hv,Nat.zero_mul,Nat.add_zero] at x2
       exact ⟨x1,_,x2,hrv 0 r rfl j v hj⟩
      have rB:∀(j:Nat) (v:AV),r[j]?=some v→v.leaf=true∧∃V,B[j]?=some V∧RV φ H.length w v V:=fun j v hj=>⟨(hcell j v hj).1,b4 j v hj⟩
      have rA:∀(j:Nat) (v:AV),q[j]?=some v→v.leaf=true∧∃V,A[j]?=some V∧RV φ H.length w v V:=fun j v hj=>⟨((e6.2 0 q rfl).2 j v hj).1,a4 j v hj⟩
      have hcs:37≤cs.size:=by have:=e6.1;simpa using this
      have hone:((⟨cb,off,none⟩:Addr)).spot=none:=rfl
      by_cases hc2:2≤cap
      ·refine (call_ins2 (bs:=L.cb) (cap:=cap) (av:=⟨cb,off,none⟩) (capv:=capv) e3 hv rfl hne hc2 (by rw [e4];exact hfit) (e5.2.2 (by decide)) (by omega) a2 a3 (by omega) b2 b3).mono ?_
       rintro e w2 ⟨rfl,rfl⟩
       have hz1:(spl cs 37 A).size=cs.size:=spl_size (by have:=Nat.mul_le_mul_right 37 hc2;omega)
       have hz2:(spl (spl cs 37 A) 0 B).size=cs.size:=by rw [spl_size (by omega),hz1]
       have h74:2*37≤cs.size:=by have:=Nat.mul_le_mul_right 37 hc2;omega
       obtain ⟨r1,r2⟩:=hH.drew.regen e1 (g':=4*g+4) (by omega) (T:=T) (fr:=fr) (fun r hr=>by rw [show w.drew.heap=w.heap from rfl,e3] at hr;cases hr) (by rw [hz2];exact e4) ⟨by rw [hz2];exact e5.1,⟨fun h=>by omega,fun h=>by omega⟩,fun h=>by rw [hz2];exact e5.2.2 h⟩
        (rows_two (Z:=cs) (A:=A) (B:=B) h74 hr hq (by omega) (by omega) hz2 (fun j hj=>by rw [spl_at (by omega),if_pos (by omega)];simp) (fun j hj=>by rw [spl_at (by omega),if_neg (by omega),spl_at (by omega),if_pos (by omega)];simp) (fun j v hj=>by obtain ⟨x,V,y,z⟩:=rB j v hj;exact ⟨x,V,y,z.mono .drew⟩) (fun j v hj=>by obtain ⟨x,V,y,z⟩:=rA j v hj;exact ⟨x,V,y,z.mono .drew⟩))
       refine ⟨_,_,rfl,?_,r1,by simpa using Ext.trans Ext.drew r2,fun k hk=>List.getElem?_set_ne (by omega)⟩
       refine .sl (by simpa using hbn) hc2 fun L' hL'=>?_
       simp only [addLoc,if_true,Option.some.injEq] at hL'
       subst hL'
       exact ⟨Nat.le_refl _,fun _=>⟨by simp,by simpa using hfit⟩⟩
      ·have hc1:cap=1:=by omega
       subst hc1
       refine (call_ins1 (bs:=L.cb) (av:=⟨cb,off,none⟩) (capv:=capv) e3 hv rfl hne (by omega) a2 a3 (by omega) b2 b3).mono ?_
       rintro e w2 ⟨newCap,Z,hn2,hZ,rfl,k1,k2,k4,k3⟩
       have h74:2*37≤Z.size:=by have:=Nat.mul_le_mul_right 37 hn2;omega
       have hz1:(spl Z 0 B).size=Z.size:=spl_size (by omega)
       have hz2:(spl (spl Z 0 B) 37 A).size=Z.size:=by rw [spl_size (by omega),hz1]
       obtain ⟨r1,r2⟩:=hH.move e1 (g':=4*g+4) (by omega) (T:=104) (fr:=(0,0)) (.zero (by omega))
        (rows_two (Z:=Z) (A:=A) (B:=B) h74 hr hq (by omega) (by omega) hz2 (fun j hj=>by rw [spl_at (by omega),if_neg (by omega),spl_at (by omega),if_pos (by omega)];simp) (fun j hj=>by rw [spl_at (by omega),if_pos (by omega)];simp) rB rA)
       have hk:∀(cb:Nat) (o:Obj),(w.alloc (.cells (spl (spl Z 0 B) 37 A) 104 (0,0))).heap[cb]?=some o→w2.heap[cb]?=some o:=by
        intro cb o ho
        have hlt:=(Array.getElem?_eq_some_iff.1 ho).1
        simp only [World.alloc,Array.size_push] at hlt
        rcases Nat.lt_or_ge cb w.heap.size with h | h
        ·rw [heap_alloc_old h] at ho;rw [k3 cb h];exact ho
        ·have:cb=w.heap.size:=by omega
         subst this
         rw [heap_alloc_new] at ho;rw [k2];exact ho
       have hs:(w.alloc (.cells (spl (spl Z 0 B) 37 A) 104 (0,0))).heap.size≤w2.heap.size:=by rw [k1];simp
       refine ⟨_,_,rfl,?_,r1.keeps hs hk (k4),by simpa using r2.trans (Ext.keeps hs hk k4),fun k hk=>List.getElem?_set_ne (by omega)⟩
       refine .sl (by simpa using hbn) hn2 fun L' hL'=>?_
       simp only [addLoc,if_true,Option.some.injEq] at hL'
       subst hL'
       exact ⟨Nat.le_refl _,fun _=>⟨by simp,by simp [hz2,hZ]⟩⟩
   ·cases h
  ·cases h
 ·cases h
end Go.Proofs.Ev
namespace Go.Proofs.Ev
inductive Req where
 | code (base:Nat) (c:Code) (s:List AV) (H:Heap)
 | seq (base:Nat) (ops:Array Oper) (l:List Oper) (s:List AV) (H:Heap)
 | step (base:Nat) (ops:Array Oper) (o:Oper) (s:List AV) (H:Heap)
 | call (base:Nat) (f:AV) (args:List AV) (H:Heap)
 | func (base:Nat) (f:FuncId) (args:List AV) (H:Heap)
inductive Rsp where
 | code (e:AExit) (s:List AV) (H:Heap)
 | seq (s:List AV) (H:Heap)
 | val (v:AV) (H:Heap)
def Rsp.c:Option Rsp→Option (AExit×List AV×Heap) | some (.code e s H)=>some (e,s,H) | _=>none
def Rsp.q:Option Rsp→Option (List AV×Heap) | some (.seq s H)=>some (s,H) | _=>none
def Rsp.v:Option Rsp→Option (AV×Heap) | some (.val v H)=>some (v,H) | _=>none
def Rsp.ofC:Option (AExit×List AV×Heap)→Option Rsp | some (e,s,H)=>some (.code e s H) | none=>none
def Rsp.ofQ:Option (List AV×Heap)→Option Rsp | some (s,H)=>some (.seq s H) | none=>none
def Rsp.ofV:Option (AV×Heap)→Option Rsp | some (v,H)=>some (.val v H) | none=>none
theorem Rsp.c_of (x:Option (AExit×List AV×Heap)):Rsp.c (Rsp.ofC x)=x:=by cases x<;>rfl
theorem Rsp.q_of (x:Option (List AV×Heap)):Rsp.q (Rsp.ofQ x)=x:=by cases x<;>rfl
theorem Rsp.v_of (x:Option (AV×Heap)):Rsp.v (Rsp.ofV x)=x:=by cases x<;>rfl
def forceI {α:Type} (n:Int) (k:Int→α):α:=Int.casesOn n (fun m=>Nat.casesOn m (k 0) fun m'=>k (Int.ofNat (m'+1))) (fun m=>k (Int.negSucc m))
def forceV {α:Type} (v:AV) (k:AV→α):α:=match v with | .int i n=>forceI n fun n'=>k (.int i n') | .bool b=>(match b with | true=>k (.bool true) | false=>k (.bool false)) | v=>k v
noncomputable def forceL {α β:Type} (l:List β) (k:List β→α):α:=List.rec (motive:=fun _=>(List β→α)→α) (fun k=>k []) (fun a _ ih k=>ih fun l'=>k (a::l')) l k
theorem forceI_eq {α:Type} (n:Int) (k:Int→α):forceI n k=k n:=by
 cases n with
 | ofNat m=>cases m<;>rfl
 | negSucc m=>rfl
theorem forceV_eq {α:Type} (v:AV) (k:AV→α):forceV v k=k v:=by
 unfold forceV
 split
 ·exact forceI_eq _ _
 ·split<;>rfl
 ·rfl
theorem forceL_eq {α β:Type}:∀(l:List β) (k:List β→α),forceL l k=k l
 | [],_=>rfl
 | a::l,k=>forceL_eq l fun l'=>k (a::l')
def quietOp:Op→Bool
 | .move _ | .assign _ | .pick .. | .build .. | .buildSlice .. | .load .. | .nilCheck _ | .binOp .. | .unOp .. | .makeFunc .. | .slice .. | .fieldAddr .. | .indexAddr .. | .index .. | .lookup .. | .extract .. | .call { callee:=.builtin .len,.. }=>true
 | _=>false
noncomputable section
section run
variable (P:Program) (C:Cfg) (ih:Req→Option Rsp)
def codeI (base:Nat) (c:Code) (s:List AV) (H:Heap):=Rsp.c (ih (.code base c s H))
def seqI (base:Nat) (ops:Array Oper) (l:List Oper) (s:List AV) (H:Heap):=Rsp.q (ih (.seq base ops l s H))
def stepI (base:Nat) (ops:Array Oper) (o:Oper) (s:List AV) (H:Heap):=Rsp.v (ih (.step base ops o s H))
def callI (base:Nat) (f:AV) (args:List AV) (H:Heap):=Rsp.v (ih (.call base f args H))
def funcI (base:Nat) (f:FuncId) (args:List AV) (H:Heap):=Rsp.v (ih (.func base f args H))
def codeB (base:Nat) (c:Code) (s:List AV) (H:Heap):Option (AExit×List AV×Heap) :=
 match c with
 | .skip=>some (.normal,s,H)
 | .label _=>some (.normal,s,H)
 | .ret=>some (.ret,s,H)
 | .exit id=>some (.exit id,s,H)
 | .seq a b =>
  match codeI ih base a s H with
  | some (.normal,s',H')=>codeI ih base b s' H'
  | r=>r
 | .cond x a b =>
  match evalOperand s x with
  | .bool true=>codeI ih base a s H
  | .bool false=>codeI ih base b s H
  | _=>none
 | .block id b =>
  match codeI ih base b s H with
  | some (.exit i,s',H')=>if i=id then some (.normal,s',H') else some (.exit i,s',H')
  | r=>r
 | .loop b =>
  match codeI ih base b s H with
  | some (.normal,s',H')=>codeI ih base (.loop b) s' H'
  | r=>r
 | .region _ ops false =>
  match seqI ih base ops ops.toList s H with
  | some (s',H')=>some (.normal,s',H')
  | none=>none
 | .region _ ops true =>
  match runT P ops (fun o s H=>stepI ih base ops o s H) ops.toList s H with
  | some (tr,s',H')=>if drawOkT ops tr H' (fun o s H=>stepI ih base ops o s H) then forceL s' fun s'=>forceL H' fun H'=>some (.normal,s',H') else none
  | none=>none
 | .rangeFunc g ps assign body =>
  match evalOperand s g with
  | .fn f caps =>
   match funcI ih base f (.yld H.length::caps) (H++[.loop true none s ps.toList assign body]) with
   | some (_,H2) =>
    match H2[H.length]? with
    | some (.loop true none _ _ _ _)=>forceL (H2.set H.length .dead) fun H3=>some (.normal,s,H3)
    | some (.loop false (some c) _ _ _ _)=>codeI ih base c s (H2.set H.length .dead)
    | _=>none
   | none=>none
  | _=>none
 | _=>none
def seqB (base:Nat) (ops:Array Oper) (l:List Oper) (s:List AV) (H:Heap):Option (List AV×Heap) :=
 match l with
 | []=>some (s,H)
 | o::rest =>
  match stepI ih base ops o s H with
  | some (v,H')=>forceV v fun v=>forceL (putA s o.dst v) fun s1=>if quietOp o.op then seqI ih base ops rest s1 H' else forceL H' fun H1=>seqI ih base ops rest s1 H1
  | none=>none
def stepB (base:Nat) (ops:Array Oper) (o:Oper) (s:List AV) (H:Heap):Option (AV×Heap) :=
 match wantedA ops s o with
 | some true =>
  match o.op with
  | .call { callee:=.value f,args,.. }=>callI ih base (evalOperand s f) (args.toList.map (evalOperand s)) H
  | _=>opA P C base H (evalOperand s) o
 | some false=>some (.tup [],H)
 | none=>none
def callB (base:Nat) (f:AV) (args:List AV) (H:Heap):Option (AV×Heap) :=
 match f with
 | .fn f caps =>
  if C.pure f then
   match funcI ih H.length f (args++caps) H with
   | some (r,H')=>match freezeA H' H.length 3 r with | some r'=>some (r',H) | none=>none
   | none=>none
  else if C.frz f then
   match (args++caps).mapM (freezeA H 0 6) with
   | some aS =>
    match funcI ih 0 f aS [] with
    | some (r,_)=>if r.flat then some (r,H) else none
    | none=>none
   | none=>none
  else funcI ih base f (args++caps) H
 | .yld b =>
  match H[b]? with
  | some (.loop true none slots ps assign body) =>
   if base≤b∧args.length=ps.length then
    match codeI ih base assign (setParams ps args slots) H with
    | some (.normal,s1,H1) =>
     match H1[b]? with
     | some (.loop true none l1 p1 a1 b1) =>
      match codeI ih base body s1 (H1.set b (.loop false none l1 p1 a1 b1)) with
      | some (e,_,H3) =>
       match H3[b]? with
       | some (.loop false none l3 p3 a3 b3)=>some (.bool e.code.isNone,H3.set b (.loop e.code.isNone e.code l3 p3 a3 b3))
       | _=>none
      | none=>none
     | _=>none
    | _=>none
   else none
  | _=>none
 | _=>none
def funcB (base:Nat) (f:FuncId) (args:List AV) (H:Heap):Option (AV×Heap) :=
 match C.prim f with
 | some p=>p base args H
 | none =>
  match P.funcs[f]? with
  | some fn =>
   match fn.body with
   | some c =>
    forceL (args++List.replicate (fn.ntmps-args.length) (.tup [])) fun s0 =>
    match codeI ih base c s0 H with
    | some (.normal,s',H')=>(resultsA P H' s' fn.results.toList).map fun vs=>(packA vs,H')
    | some (.ret,s',H')=>(resultsA P H' s' fn.results.toList).map fun vs=>(packA vs,H')
    | _=>none
   | none=>none
  | none=>none
def stepB1:Req→Option Rsp
 | .code base c s H=>Rsp.ofC (codeB P ih base c s H)
 | .seq base ops l s H=>Rsp.ofQ (seqB ih base ops l s H)
 | .step base ops o s H=>Rsp.ofV (stepB P C ih base ops o s H)
 | .call base f args H=>Rsp.ofV (callB C ih base f args H)
 | .func base f args H=>Rsp.ofV (funcB P C ih base f args H)
end run
def evK (P:Program) (C:Cfg) (n:Nat):Req→Option Rsp:=Nat.rec (fun _=>none) (fun _ ih r=>stepB1 P C ih r) n
theorem evK_eq (P:Program) (C:Cfg):∀n:Nat,(∀base c s H,evK P C n (.code base c s H)=Rsp.ofC (codeA P C n base c s H))∧(∀base ops l s H,evK P C n (.seq base ops l s H)=Rsp.ofQ (seqA P C n base ops l s H))∧
 (∀base ops o s H,evK P C n (.step base ops o s H)=Rsp.ofV (stepA P C n base ops o s H))∧(∀base f args H,evK P C n (.call base f args H)=Rsp.ofV (callA P C n base f args H))∧(∀base f args H,evK P C n (.func base f args H)=Rsp.ofV (funcA P C n base f args H)):=by
 intro n
 induction n with
 | zero =>
  refine ⟨fun _ _ _ _=>?_,fun _ _ _ _ _=>?_,fun _ _ _ _ _=>?_,fun _ _ _ _=>?_,fun _ _ _ _=>?_⟩
  ·rw [codeA];rfl
  ·rw [seqA];rfl
  ·rw [stepA];rfl
  ·rw [callA];rfl
  ·rw [funcA];rfl
 | succ n ih =>
  obtain ⟨i1,i2,i3,i4,i5⟩:=ih
  have e1:∀base c s H,codeI (evK P C n) base c s H=codeA P C n base c s H:=fun base c s H=>by rw [codeI,i1,Rsp.c_of]
  have e2:∀base ops l s H,seqI (evK P C n) base ops l s H=seqA P C n base ops l s H:=fun base ops l s H=>by rw [seqI,i2,Rsp.q_of]
  have e3:∀base ops o s H,stepI (evK P C n) base ops o s H=stepA P C n base ops o s H:=fun base ops o s H=>by rw [stepI,i3,Rsp.v_of]
  have e4:∀base f args H,callI (evK P C n) base f args H=callA P C n base f args H:=fun base f args H=>by rw [callI,i4,Rsp.v_of]
  have e5:∀base f args H,funcI (evK P C n) base f args H=funcA P C n base f args H:=fun base f args H=>by rw [funcI,i5,Rsp.v_of]
  refine ⟨fun base c s H=>?_,fun base ops l s H=>?_,fun base ops o s H=>?_,fun base f args H=>?_,fun base f args H=>?_⟩
  ·show Rsp.ofC (codeB P (evK P C n) base c s H)=_
   congr 1
   cases c with
   | region id ops draw =>
    cases draw
    ·simp only [codeA,codeB,e2]
     cases seqA P C n base ops ops.toList s H<;>rfl
    ·simp only [codeA,codeB,e3,forceL_eq]
     cases runT P ops (fun o s H=>stepA P C n base ops o s H) ops.toList s H<;>rfl
   | seq a b =>
    simp only [codeA,codeB,e1]
    cases codeA P C n base a s H with
    | none=>rfl
    | some x=>obtain ⟨e,s',H'⟩:=x;cases e<;>rfl
   | cond x a b =>
    simp only [codeA,codeB,e1]
    cases evalOperand s x with
    | bool t=>cases t<;>rfl
    | _=>rfl
   | block id b =>
    simp only [codeA,codeB,e1]
    cases codeA P C n base b s H with
    | none=>rfl
    | some x=>obtain ⟨e,s',H'⟩:=x;cases e<;>rfl
   | loop b =>
    simp only [codeA,codeB,e1]
    cases codeA P C n base b s H with
    | none=>rfl
    | some x=>obtain ⟨e,s',H'⟩:=x;cases e<;>rfl
   | rangeFunc g ps assign body =>
    simp only [codeA,codeB,e1,e5,forceL_eq]
    cases evalOperand s g with
    | fn f caps =>
     simp only
     cases funcA P C n base f (.yld H.length::caps) (H++[.loop true none s ps.toList assign body]) with
     | none=>rfl
     | some x =>
      obtain ⟨v,H2⟩:=x
      simp only
      cases H2[H.length]? with
      | none=>rfl
      | some y =>
       cases y with
       | loop r p l ps a b=>cases r<;>cases p<;>rfl
       | _=>rfl
    | _=>rfl
   | _=>simp only [codeA,codeB]
  ·show Rsp.ofQ (seqB (evK P C n) base ops l s H)=_
   congr 1
   cases l with
   | nil=>rw [seqA];rfl
   | cons o rest =>
    rw [seqA]
    unfold seqB
    simp only [e2,e3,forceL_eq,forceV_eq,ite_self]
    cases stepA P C n base ops o s H<;>rfl
  ·show Rsp.ofV (stepB P C (evK P C n) base ops o s H)=_
   congr 1
   rw [stepA]
   unfold stepB
   simp only [e4]
   cases wantedA ops s o with
   | none=>rfl
   | some b =>
    cases b with
    | false=>rfl
    | true =>
     simp only
     cases o.op with
     | call c =>
      obtain ⟨callee,args,ats⟩:=c
      cases callee<;>rfl
     | _=>rfl
  ·show Rsp.ofV (callB C (evK P C n) base f args H)=_
   congr 1
   cases f with
   | fn f caps =>
    simp only [callA,callB,e5]
    split
    ·cases funcA P C n H.length f (args++caps) H with
     | none=>rfl
     | some x =>
      obtain ⟨r,H'⟩:=x
      simp only
      cases freezeA H' H.length 3 r<;>rfl
    ·split
     ·cases (args++caps).mapM (freezeA H 0 6) with
      | none=>rfl
      | some av =>
       simp only
       cases funcA P C n 0 f av [] with
       | none=>rfl
       | some x=>obtain ⟨r,H'⟩:=x;rfl
     ·rfl
   | yld b =>
    simp only [callA,callB,e1]
    cases H[b]? with
    | none=>rfl
    | some y =>
     cases y with
     | loop r p l ps a bd =>
      cases r
      ·rfl
      ·cases p
       ·simp only
        split
        ·cases codeA P C n base a (setParams ps args l) H with
         | none=>rfl
         | some x =>
          obtain ⟨e,s1,H1⟩:=x
          cases e
          ·simp only
           cases H1[b]? with
           | none=>rfl
           | some y =>
            cases y with
            | loop r p l1 p1 a1 b1 =>
             cases r
             ·rfl
             ·cases p
              ·simp only
               cases codeA P C n base bd s1 (H1.set b (.loop false none l1 p1 a1 b1)) with
               | none=>rfl
               | some x =>
                obtain ⟨e,s2,H3⟩:=x
                simp only
                cases H3[b]? with
                | none=>rfl
                | some y =>
                 cases y with
                 | loop r p l3 p3 a3 b3=>cases r<;>cases p<;>rfl
                 | _=>rfl
              ·rfl
            | _=>rfl
          ·rfl
          ·rfl
        ·rfl
       ·rfl
     | _=>rfl
   | _=>simp only [callA,callB]
  ·show Rsp.ofV (funcB P C (evK P C n) base f args H)=_
   congr 1
   rw [funcA]
   unfold funcB
   simp only [e1,forceL_eq]
   cases C.prim f with
   | some p=>rfl
   | none =>
    simp only
    cases P.funcs[f]? with
    | none=>rfl
    | some fn =>
     simp only
     cases fn.body with
     | none=>rfl
     | some c =>
      simp only
      cases codeA P C n base c (args++List.replicate (fn.ntmps-args.length) (.tup [])) H with
      | none=>rfl
      | some x=>obtain ⟨e,s',H'⟩:=x;cases e<;>rfl
theorem evK_func {P:Program} {C:Cfg} {n base:Nat} {f:FuncId} {args:List AV} {H:Heap}:Rsp.v (evK P C n (.func base f args H))=funcA P C n base f args H:=by
 rw [((evK_eq P C n).2.2.2.2) base f args H,Rsp.v_of]
end
end Go.Proofs.Ev
