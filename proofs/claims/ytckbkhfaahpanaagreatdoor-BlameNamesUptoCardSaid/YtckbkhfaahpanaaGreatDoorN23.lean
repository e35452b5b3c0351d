/- Part 23 of the proof that quiltlaw38.BlameNames returns true: no statement of its own. -/
import Derived.Test.YtckbkhfaahpanaaGreatDoorN22
import Derived.Test.YtckbkhfaahpanaaGreatDoorN6
import Derived.Test.YtckbkhfaahpanaaGreatDoorN12
import Derived.Lib.LaidTab
import Derived.Stop.LaidErr
import Derived.MakeChecks
import Derived.Below
set_option linter.all false
namespace Go.Proofs.Ev
open Go.Proofs
variable {C:Cfg} {σ:Sorts}
section
variable {P:Program} {base:Nat} (d:Option Tmp) (ty:TypeId) (pos:String) (af:Array Edge) (g:Option (Nat×Bool)) (s:Sl) (H:Heap) (K:AV→Heap→Prop)
@[simp ↓] theorem op_mapEntry (t:TypeId) (m k:Operand):wpOp P C base ⟨d,.mapEntry t m k,ty,pos,af,g⟩ s H K=getW (mapEntryA P C base H t (valF s m) (valF s k)) K:=Eq.trans rfl rfl
@[simp ↓] theorem op_entryStore (t:TypeId) (m k x:Operand):wpOp P C base ⟨d,.entryStore t m k x,ty,pos,af,g⟩ s H K=getH (entryStoreA base H (valF s m) (valF s k) (valF s x)) K:=by rw [←getW_retU];rfl
end
abbrev KS:=List IdV×List (IdV×List IdV)
def stepO (x:AtV) (a:KS) (d:IdV):KS:=(if x.kind=7 then addI a.1 d else a.1,addM a.2 d x.id)
def stepK (a:KS) (x:AtV):KS:=if hasI a.1 x.id then a else x.over.foldl (stepO x) a
def killP (σ:Sorts) (s:List StoredV):KS:=(latA σ s (ordP σ s s.length []) (ordP σ s s.length []).length).foldl stepK ([],[])
theorem KB.more {base lo b1 m1 b2 m2 n n':Nat} {R:List IdV} {M:List (IdV×List IdV)} {V:Heap} (h:KB base lo b1 m1 b2 m2 n R M V) (hn:n≤n'):KB base lo b1 m1 b2 m2 n' R M V:=by
 obtain ⟨a1,a2,a3,⟨T,t1,t2,t3,t4⟩,a5,a6⟩:=h
 exact ⟨a1,a2,a3,⟨T,t1,t2,t3,fun t ht=>Nat.le_trans (t4 t ht) hn⟩,a5,a6⟩
theorem KB.setO {base lo b1 m1 b2 m2 n b:Nat} {R:List IdV} {M:List (IdV×List IdV)} {V:Heap} {blk:Blk} (x:Blk) (h:KB base lo b1 m1 b2 m2 n R M V) (hb:V[b]?=some blk) (hn:∀g rs,blk≠Blk.rows 33 g rs) (hne:b≠b1∧b≠m1∧b≠b2∧b≠m2):KB base lo b1 m1 b2 m2 n R M (V.set b x):=by
 refine h.keep (by simp) (fun b' blk' _ hb' hc=>?_) fun b' g rs hb'=>?_
 ·rw [List.getElem?_set_ne (by omega)];exact hb'
 ·rw [List.getElem?_set_ne]
  ·exact hb'
  ·rintro rfl
   rw [hb] at hb'
   exact hn _ _ (Option.some.inj hb')
theorem KB.ret {base lo b1 m1 b2 m2 n:Nat} {R:List IdV} {M:List (IdV×List IdV)} {V:Heap} (h:KB base lo b1 m1 b2 m2 n R M V) (d:IdV):KB base lo b1 m1 b2 m2 n (addI R d) M (V.set m1 (.map (entI (retE (addI R d))))):=by
 obtain ⟨a1,a2,a3,⟨T,t1,t2,t3,t4⟩,a5,a6,a7,a8,a9,c1,c2,c3,c4⟩:=h
 have hm1:m1<V.length:=(List.getElem?_eq_some_iff.1 a2).1
 refine ⟨blk_setm a1 a2,by rw [List.getElem?_set_self hm1],blk_setm a3 a2,⟨T,by rw [List.getElem?_set_ne a5];exact t1,t2,t3.keep fun b g rs hb=>?_,t4⟩,a5,a6,a7,a8,by simpa using a9,c1,c2,c3,c4⟩
 rw [List.getElem?_set_ne]
 ·exact hb
 ·rintro rfl
  rw [a2] at hb;cases hb
def KI (H0:Heap) (base lo b1 m1 b2 m2 bl bs:Nat) (LB:Blk) (v:AV) (l:List AtV) (V:Heap):Prop :=
 KB base lo b1 m1 b2 m2 (2^10*l.length) (l.foldl stepK ([],[])).1 (l.foldl stepK ([],[])).2 V∧V[bl]?=some LB∧blkRow V bs 0 1 0=some [v]∧∀(b:Nat) (blk:Blk),H0[b]?=some blk→V[b]?=some blk
theorem kill_range (S:SettingT C σ) {s0:List StoredV} {k:SK} (hs:SetGood s0) (h8:s0.length≤8) {H0:Heap} {base lo b1 m1 b2 m2 bl bs nb po:Nat} {l1:List AV} {ps:List Tmp} {asg bd:Code} {X:Heap} (hnb:nb=bl) (hpo:po=bs)
 (hd:b1<bl∧m1<bl∧b2<bl∧m2<bl∧bs<bl∧bl<lo∧H0.length≤bl)
 (hy:∀(LB BB:Blk) (_:loopB l1 ps asg bd=LB) (_:busyB l1 ps asg bd=BB) {l:List AtV} {V:Heap} (y:AtV),KI H0 base lo b1 m1 b2 m2 bl bs LB (slAV k (s0.map StoredV.cells)) l V→l.length≤2^20→y.over.length≤2^10→
  CallW Tryz.prog C base (.yld bl) [.agg y.cells] V fun v V'=>v=.bool true∧KI H0 base lo b1 m1 b2 m2 bl bs LB (slAV k (s0.map StoredV.cells)) (l++[y]) V'∧∀b blk,lo≤b→V[b]?=some blk→(∀g rs,blk≠Blk.rows 33 g rs)→V'[b]?=some blk)
 (h0:KI H0 base lo b1 m1 b2 m2 bl bs (loopB l1 ps asg bd) (slAV k (s0.map StoredV.cells)) [] (X++[loopB l1 ps asg bd])) (K:AV→Heap→Prop)
 (hK:∀V,KB base lo b1 m1 b2 m2 (2^30) (killP σ s0).1 (killP σ s0).2 V→V[bl]?=some (loopB l1 ps asg bd)→(∀(b:Nat) (blk:Blk),H0[b]?=some blk→V[b]?=some blk)→K (.tup []) V) :
 FuncW Tryz.prog C base 108 [.yld nb,.ptr po 0 1 0 0] (X++[loopB l1 ps asg bd]) K:=by
 subst hnb;subst hpo
 have hLm:∀d∈ordP σ s0 s0.length [],hasS s0 d.d=true:=by
  intro d hd
  rcases ordP_mem s0 _ _ d hd with h | ⟨x,hx,rfl⟩
  ·cases h
  ·unfold hasS;rw [List.find?_isSome];exact ⟨x,hx,by simp⟩
 have hll:(ordP σ s0 s0.length []).length≤8:=by have:=ordP_len (σ:=σ) s0 s0.length [];simp at this;omega
 refine latest_walk S (k:=k) hs h8 (start:=lo) (I:=KI H0 base lo b1 m1 b2 m2 nb po (loopB l1 ps asg bd) (slAV k (s0.map StoredV.cells))) ⟨?_,?_,?_,?_,?_⟩ h0 K ?_
 ·rintro l V L ⟨h1,h2,h3,h4⟩
  exact ⟨h1.app L,by rw [List.getElem?_append_left (List.getElem?_eq_some_iff.1 h2).1];exact h2,blk_app h3 L,fun b blk hb=>by have:=h4 b blk hb;rw [List.getElem?_append_left (List.getElem?_eq_some_iff.1 this).1];exact this⟩
 ·rintro l V b blk x ⟨h1,h2,h3,h4⟩ hb hg hn
  refine ⟨h1.setO x hg hn (by omega),by rw [List.getElem?_set_ne (by omega)];exact h2,?_,fun b' blk' hb'=>by have:=(List.getElem?_eq_some_iff.1 hb').1;rw [List.getElem?_set_ne (by omega)];exact h4 b' blk' hb'⟩
  unfold blkRow at h3 ⊢
  rw [List.getElem?_set_ne (by omega)];exact h3
 ·rintro l V ⟨h1,_,_⟩
  exact ⟨h1.low.2.2.1,h1.low.2.2.2.1⟩
 ·rintro l V ⟨_,_,h3,_⟩
  exact h3
 ·intro l V y h hl ho
  obtain ⟨V',⟨h1,h2⟩,e⟩:=CallW.ex (hy _ _ rfl rfl y h hl ho)
  exact ⟨V',h1,h2,e⟩
 ·rintro V ⟨h1,h2,_,h4⟩
  have hlat:=latA_len (σ:=σ) hs hLm (ordP σ s0 s0.length []).length
  exact hK V (h1.more (by omega)) h2 h4
set_option maxRecDepth 100000 in
set_option maxHeartbeats 8000000 in
theorem killers_ex (S:SettingT C σ) {s0:List StoredV} {k:SK} (hs:SetGood s0) (h8:s0.length≤8) {base:Nat} {H:Heap} (hb:base≤H.length) :
 ∃V T,V[H.length+2]?=some (.map (entI (T.map KR.e)))∧T.map KR.m=(killP σ s0).2∧KsIs (H.length+6) T V∧(∀t∈T,t.l.length≤2^30)∧(∀(b:Nat) (blk:Blk),H[b]?=some blk→V[b]?=some blk)∧∀K:AV→Heap→Prop,CallW Tryz.prog C base (.fn 29 []) [slAV k (s0.map StoredV.cells)] H K=K (.map (H.length+2)) V:=by
 suffices h:CallW Tryz.prog C base (.fn 29 []) [slAV k (s0.map StoredV.cells)] H (fun v' V=>v'=.map (H.length+2)∧∃T:List KR,V[H.length+2]?=some (.map (entI (T.map KR.e)))∧T.map KR.m=(killP σ s0).2∧KsIs (H.length+6) T V∧(∀t∈T,t.l.length≤2^30)∧∀(b:Nat) (blk:Blk),H[b]?=some blk→V[b]?=some blk) by
  obtain ⟨n,v1,V,h1,rfl,T,h2,h3,h4,h5,h6⟩:=h
  exact ⟨V,T,h2,h3,h4,h5,h6,fun K=>CallW.eq ⟨n,_,_,h1,rfl,rfl⟩ K⟩
 refine call_rule (S.plainT _ (by decide)).1 (S.plainT _ (by decide)).2 (func_rule Tryz.func29 rfl (S.prim _ (by decide)) (by simp) (by kernel_rfl) ?_)
 unfold Tryz.f29
 obtain ⟨v,hv⟩:∃v,v=slAV k (s0.map StoredV.cells):=⟨_,rfl⟩
 have hvl:v.leaf=true:=by rw [hv];simp
 have hvc:v.cells=[v]:=by rw [hv];simp
 have el:=fun (X:Heap) (K:AV→Heap→Prop)=>latest_eq S v hvl hvc (base:=base) (H:=X) K
 rw [←hv]
 refine cut (fun s X=>s 0=v∧X=H) ?_ ?_
 ·simp [argS]
 rintro s X ⟨q0,rfl⟩
 have hnm1:AV.nilm.cells.length=1:=rfl
 have hnm2:AV.nilm.cells.tail=[]:=rfl
 have hb1:base≤X.length+1:=by omega
 have hb3:base≤X.length+3:=by omega
 refine cut (fun s X'=>s 0=v∧s 3=.ptr (X.length+1) 0 1 0 0∧X'=X++[.map [],.rows 1 0 [[.map X.length]]]) ?_ ?_
 ·simp [q0,storeA,hnm1,hnm2,hb1]
 rintro s X' ⟨q0,q3,rfl⟩
 refine cut (fun s X'=>s 0=v∧s 3=.ptr (X.length+1) 0 1 0 0∧s 4=.ptr (X.length+3) 0 1 0 0∧X'=X++[.map [],.rows 1 0 [[.map X.length]],.map [],.rows 1 0 [[.map (X.length+2)]]]) ?_ ?_
 ·simp [q0,q3,storeA,hnm1,hnm2,hb3]
 rintro s X' ⟨q0,q3,q4,rfl⟩
 refine cut (fun s V=>∃b2:Nat,blkRow V b2 0 1 0=some [.map (X.length+2)]∧s 4=.ptr b2 0 1 0 0∧∃T:List KR,V[X.length+2]?=some (.map (entI (T.map KR.e)))∧T.map KR.m=(killP σ s0).2∧KsIs (X.length+6) T V∧(∀t∈T,t.l.length≤2^30)∧∀(b:Nat) (blk:Blk),X[b]?=some blk→V[b]?=some blk) ?_ ?_
 rotate_left
 ·rintro s V ⟨b2,h1,q4,T,h2,h3,h4,h5,h6⟩
  simp [q4,h1]
  exact ⟨T,h2,h3,h4,h5,h6⟩
 refine cut (fun s X'=>s 3=.ptr (X.length+1) 0 1 0 0∧s 4=.ptr (X.length+3) 0 1 0 0∧s 11=.fn 108 [.ptr (X.length+4) 0 1 0 0]∧X'=X++[.map [],.rows 1 0 [[.map X.length]],.map [],.rows 1 0 [[.map (X.length+2)]],.rows 1 0 [[v]]]) ?_ ?_
 ·simp [q0,q3,q4,el]
 clear q0 q3 q4
 rintro s X' ⟨q3,q4,q11,rfl⟩
 rw [wp_block,wp_range]
 refine range_rule (f:=108) (caps:=[.ptr (X.length+4) 0 1 0 0]) (by simp [q11]) fun l1 hr1=>?_
 refine kill_range S (k:=k) (H0:=X) (base:=base) (lo:=X.length+6) (b1:=X.length+1) (m1:=X.length) (b2:=X.length+3) (m2:=X.length+2) (bl:=X.length+5) (bs:=X.length+4) hs h8 (by simp) rfl (by omega) ?_ ?_ _ ?_
 ·rw [←hv]
  rintro LB BB hLB hBB l V y ⟨hKB,hbl,hbs,hlo⟩ hl ho
  have hLr:∀sz g rs,LB≠.rows sz g rs:=by intro sz g rs h;rw [←hLB] at h;cases h
  have hBr:∀sz g rs,BB≠.rows sz g rs:=by intro sz g rs h;rw [←hBB] at h;cases h
  have hlow:=hKB.low
  have hblV:X.length+5<V.length:=(List.getElem?_eq_some_iff.1 hbl).1
  obtain ⟨W,hW⟩:∃W,W=V.set (X.length+5) BB:=⟨_,rfl⟩
  have hWl:W.length=V.length:=by rw [hW];simp
  have hblW:X.length+5<W.length:=by omega
  have hWV:W.set (X.length+5) LB=V:=by
   obtain ⟨hi,he⟩:=List.getElem?_eq_some_iff.1 hbl
   rw [hW,List.set_set,←he,List.set_getElem_self]
  obtain ⟨a,ha⟩:∃a,a=l.foldl stepK ([],[]):=⟨_,rfl⟩
  have hfold:(l++[y]).foldl stepK ([],[])=stepK a y:=by rw [List.foldl_append,←ha];rfl
  have hKW:=hKB.setO BB hbl (hLr _) (by omega)
  rw [←hW] at hKW
  have hgW:W[X.length+5]?=some BB:=by rw [hW,List.getElem?_set_self hblV]
  have hbsW:blkRow W (X.length+4) 0 1 0=some [v]:=by
   unfold blkRow at hbs ⊢
   rw [hW,List.getElem?_set_ne (by omega)];exact hbs
  unfold KI
  rw [hfold]
  rw [←ha] at hKB hKW
  have hgl:∀M,(V++M)[X.length+5]?=some LB:=fun M=>by rw [List.getElem?_append_left hblV];exact hbl
  have hsl:∀M,(V++M).set (X.length+5) BB=W++M:=fun M=>by rw [hW];exact List.set_append_left _ _ hblV
  have hgWM:∀M,(W++M)[X.length+5]?=some BB:=fun M=>by rw [List.getElem?_append_left hblW];exact hgW
  have hsWM:∀M,(W++M).set (X.length+5) LB=V++M:=fun M=>by rw [List.set_append_left _ _ hblW,hWV]
  have hb1r:∀M,blkRow (W++M) (X.length+1) 0 1 0=some [.map X.length]:=fun M=>(hKW.app M).p1
  have elk:=fun M=>look_ret S.toSetting (hKW.app M).r y.id
  have fy:∀M,blkRow (W++Blk.rows 172 0 [y.cells]::M) V.length 0 172 0=some y.cells:=fun M=>by rw [←hWl];simp
  have hbV:base≤V.length:=by omega
  have hkW:∀b blk,X.length+6≤b→V[b]?=some blk→W[b]?=some blk:=fun b blk hb h=>by rw [hW,List.getElem?_set_ne (by omega)];exact h
  refine yield_rule hr1 (hget:=by rw [hLB];exact hbl) (by omega) rfl (by decide) (by kernel_rfl) (by kernel_rfl) ?_
  rw [hLB,hBB]
  cases hh:hasI a.1 y.id with
  | true =>
   have hst:stepK a y=a:=by rw [stepK,hh,if_pos rfl]
   rw [hst]
   simp [q3,storeA,fillA,hgl,hsl,hbV,hb1r,fy,elk,hh,hgWM,hsWM,hLB]
   refine ⟨rfl,⟨(hKB.app _).more (by simp;omega),blk_app hbs _,fun b blk hb=>by have:=hlo b blk hb;rw [List.getElem?_append_left (List.getElem?_eq_some_iff.1 this).1];exact this⟩,fun b blk hb hg _=>by rw [List.getElem?_append_left (List.getElem?_eq_some_iff.1 hg).1];exact hg⟩
  | false =>
   have hst:stepK a y=y.over.foldl (stepO y) a:=by rw [stepK,hh,if_neg (by decide)]
   rw [hst]
   simp [q3,q4,storeA,fillA,hgl,hsl,hbV,hb1r,fy,elk,hh]
   refine loop_count y.over.length (fun j s Z=>s 3=.ptr (X.length+1) 0 1 0 0∧s 4=.ptr (X.length+3) 0 1 0 0∧s 5=.ptr V.length 0 172 0 0∧s 18=slAV y.overK (y.over.map IdV.cells)∧s 19=.int .i64 y.over.length∧s 20=.int .i64 j∧
    KB base (X.length+6) (X.length+1) X.length (X.length+3) (X.length+2) (2^10*l.length+j) ((y.over.take j).foldl (stepO y) a).1 ((y.over.take j).foldl (stepO y) a).2 Z∧Z[X.length+5]?=some BB∧Z[V.length]?=some (.rows 172 0 [y.cells])∧blkRow Z (X.length+4) 0 1 0=some [v]∧
    (∀(b:Nat) (blk:Blk),X[b]?=some blk→Z[b]?=some blk)∧∀b blk,X.length+6≤b→V[b]?=some blk→(∀g rs,blk≠Blk.rows 33 g rs)→Z[b]?=some blk) ?_ ?_
   ·refine ⟨q3,q4,rfl,rfl,rfl,rfl,hKW.app _,hgWM _,by rw [←hWl];simp,blk_app hbsW _,fun b blk hb=>by have h1:=(List.getElem?_eq_some_iff.1 hb).1;have h2:=hlo b blk hb;rw [List.getElem?_append_left (by omega),hW,List.getElem?_set_ne (by omega)];exact h2,fun b blk hb hg _=>by rw [List.getElem?_append_left (by have:=(List.getElem?_eq_some_iff.1 hg).1;omega)];exact hkW b blk hb hg⟩
   rintro j s Z ⟨q3,q4,q5,q18,q19,q20,hKZ,hgZ,hyZ,hbsZ,hloZ,hkZ⟩ hj
   by_cases hjl:j<y.over.length
   rotate_left
   ·have h':j=y.over.length:=by omega
    subst h'
    rw [List.take_length] at hKZ
    have hZl:X.length+5<Z.length:=(List.getElem?_eq_some_iff.1 hgZ).1
    simp [q3,q4,q5,q18,q19,q20,hgZ,hLB]
    refine ⟨rfl,⟨(hKZ.setO LB hgZ (hBr _) (by omega)).more (by simp;omega),by rw [List.getElem?_set_self hZl],?_,fun b blk hb=>by have h1:=(List.getElem?_eq_some_iff.1 hb).1;rw [List.getElem?_set_ne (by omega)];exact hloZ b blk hb⟩,fun b blk hb hg hn=>by rw [List.getElem?_set_ne (by omega)];exact hkZ b blk hb hg hn⟩
    unfold blkRow at hbsZ ⊢
    rw [List.getElem?_set_ne (by omega)];exact hbsZ
   obtain ⟨z,hz⟩:∃z,z=y.over[j]:=⟨_,rfl⟩
   obtain ⟨vv,i,V1,sl,V2,V3,e1,e2,e3,hK3,hk3,hl3⟩:=kill_op S.toSetting hKZ (B:=.rows 33 0 [z.cells]) rfl (by omega) z y.id
   have hfj:(y.over.take (j+1)).foldl (stepO y) a=stepO y ((y.over.take j).foldl (stepO y) a) z:=by
    rw [List.take_add_one,List.getElem?_eq_getElem hjl,List.foldl_append,hz];rfl
   obtain ⟨ac,hac⟩:∃ac,ac=(y.over.take j).foldl (stepO y) a:=⟨_,rfl⟩
   rw [←hac] at hKZ hK3 hfj
   have hyZM:∀M,blkRow (Z++M) V.length 0 172 0=some y.cells:=fun M=>blk_app (by simp [blkRow,hyZ]) M
   have hp2:∀M,blkRow (Z++M) (X.length+3) 0 1 0=some [.map (X.length+2)]:=fun M=>(hKZ.app M).p2
   have hZlen:V.length<Z.length:=(List.getElem?_eq_some_iff.1 hyZ).1
   have hup:∀{b:Nat} {blk:Blk},Z[b]?=some blk→(Z++[Blk.rows 33 0 [z.cells]])[b]?=some blk:=fun h=>by rw [List.getElem?_append_left (List.getElem?_eq_some_iff.1 h).1];exact h
   have hy3:V3[V.length]?=some (.rows 172 0 [y.cells]):=hk3 _ _ (by omega) (hup hyZ) (.inl (by intro g rs h;cases h))
   have hz3:V3[Z.length]?=some (.rows 33 0 [z.cells]):=hk3 _ _ (by omega) (by simp) (.inr (.inl rfl))
   have hg3:V3[X.length+5]?=some BB:=hk3 _ _ (by omega) (hup hgZ) (.inl (hBr _))
   have hbs3:blkRow V3 (X.length+4) 0 1 0=some [v]:=blk1_of hbsZ fun blk hb hn=>hk3 _ _ (by omega) (hup hb) (.inl hn)
   have hkk3:∀b blk,X.length+6≤b→V[b]?=some blk→(∀g rs,blk≠Blk.rows 33 g rs)→V3[b]?=some blk:=fun b blk hb hg hn=>hk3 _ _ (by omega) (hup (hkZ b blk hb hg hn)) (.inl hn)
   have hlo3:∀(b:Nat) (blk:Blk),X[b]?=some blk→V3[b]?=some blk:=fun b blk hb=>hk3 _ _ (by have:=(List.getElem?_eq_some_iff.1 hb).1;omega) (hup (hloZ b blk hb)) (.inr (.inr (by have:=(List.getElem?_eq_some_iff.1 hb).1;omega)))
   have hyr3:blkRow V3 V.length 0 172 0=some y.cells:=by simp [blkRow,hy3]
   have hzr3:blkRow V3 Z.length 0 33 0=some z.cells:=by simp [blkRow,hz3]
   have hp13:=hK3.p1
   have hbZ:base≤Z.length:=by omega
   have eu:=upd_ret S.toSetting (base:=base) hK3.low.1 hK3.r z
   by_cases hk7:y.kind=7
   ·simp [q3,q4,q5,q18,q19,q20,hjl,←hz,storeA,fillA,hbZ,hp2,hyZM,buildSliceA,fillRows,e1,e2,e3,hyr3,hzr3,hp13,hk7,eu,wrap_succ hjl (by omega)]
    have hso:stepO y ac z=(addI ac.1 z,addM ac.2 z y.id):=by simp [stepO,hk7]
    rw [hfj,hso]
    refine ⟨(hK3.ret z).more (by omega),hg3,by rw [List.getElem?_set_ne (by omega)];exact hy3,?_,fun b blk hb=>by have h1:=(List.getElem?_eq_some_iff.1 hb).1;rw [List.getElem?_set_ne (by omega)];exact hlo3 b blk hb,fun b blk hb hg hn=>by rw [List.getElem?_set_ne (by omega)];exact hkk3 b blk hb hg hn⟩
    unfold blkRow at hbs3 ⊢
    rw [List.getElem?_set_ne (by omega)];exact hbs3
   ·simp [q3,q4,q5,q18,q19,q20,hjl,←hz,storeA,fillA,hbZ,hp2,hyZM,buildSliceA,fillRows,e1,e2,e3,hyr3,hzr3,hp13,hk7,wrap_succ hjl (by omega)]
    have hso:stepO y ac z=(ac.1,addM ac.2 z y.id):=by simp [stepO,hk7]
    rw [hfj,hso]
    exact ⟨hK3.more (by omega),hg3,hy3,hbs3,hlo3,hkk3⟩
 ·rw [←hv]
  refine ⟨⟨by simp [blkRow],by simp [entI,retE],by simp [blkRow],⟨[],by simp [entI],rfl,⟨by simp,by simp⟩,by simp⟩,by omega,by simp;omega⟩,by simp,by simp [blkRow],fun b blk hb=>by have h1:=(List.getElem?_eq_some_iff.1 hb).1;rw [List.append_assoc,List.getElem?_append_left h1];exact hb⟩
 ·intro V hKB hbl hlo
  have hlen:(X++[Blk.map [],.rows 1 0 [[.map X.length]],.map [],.rows 1 0 [[.map (X.length+2)]],.rows 1 0 [[v]]]).length=X.length+5:=by simp
  rw [hlen,afterR_loop hbl]
  have hKB2:=hKB.setO .dead hbl (by intro g rs h;cases h) (by omega)
  obtain ⟨T,h2,h3,h4,h5⟩:=hKB2.o
  simp
  exact ⟨_,hKB2.p2,q4,T,by simpa using h2,h3,h4,h5,fun b blk hb=>by have h1:=(List.getElem?_eq_some_iff.1 hb).1;rw [List.getElem?_set_ne (by omega)];exact hlo b blk hb⟩
end Go.Proofs.Ev
namespace Go.Proofs.Ev
variable {P:Program} {C:Cfg} {N base:Nat}
def consOk (P:Program) (ops:Array Oper) (i p:Nat):Bool:=(List.range ops.size).all fun k=>decide (clsS P ops k<2)||((!befS ops k i||decide (k<p))&&(!befS ops i k||decide (p≤k)))
def consL (P:Program) (ops:Array Oper):List (Nat×Nat):=(List.range ops.size).flatMap fun i=>if clsS P ops i==1 then ((List.range (ops.size+1)).filter fun p=>consOk P ops i p).map fun p=>(i,p) else []
def hAt (acc:List (Sl×Heap×AV)) (H:Heap) (p:Nat):Heap:=match acc[p]? with | some x=>x.2.1 | none=>H
def chkV (P:Program) (C:Cfg) (base:Nat) (ops:Array Oper) (acc:List (Sl×Heap×AV)) (H:Heap) (ip:Nat×Nat):Prop :=
 match acc[ip.1]?,ops[ip.1]? with
 | some x,some o=>wpStep P C base ops o x.1 (hAt acc H ip.2) fun v _=>v=x.2.2
 | _,_=>False
def wpOpsV (P:Program) (C:Cfg) (N base:Nat) (ops:Array Oper):Nat→List Oper→Sl→Heap→List (Sl×Heap×AV)→(Sl→Heap→Prop)→Prop
 | _,[],s,H,acc,Q=>Q s H∧∀ip∈consL P ops,chkV P C base ops acc H ip
 | i,o::l,s,H,acc,Q=>dstOk N o.dst∧(clsS P ops i<2∨wantedF ops s o=some true)∧wpStep P C base ops o s H fun v H'=>wpOpsV P C N base ops (i+1) l (putF s o.dst v) H' (acc++[(s,H,v)]) Q
theorem runV {ops:Array Oper}:∀{os:List Oper} {i:Nat} {s:Sl} {H:Heap} {acc:List (Sl×Heap×AV)} {Q:Sl→Heap→Prop},wpOpsV P C N base ops i os s H acc Q→acc.length=i→∀{l:List AV},Rep N l s→
 ∃n tr l' s' H' accF,runT P ops (fun o s H=>stepA P C n base ops o s H) os l H=some (tr,l',H')∧Rep N l' s'∧Q s' H'∧accF.length=i+os.length∧(∀(j:Nat) (x:Sl×Heap×AV),acc[j]?=some x→accF[j]?=some x)∧
  (∀(k:Nat) (o:Oper),os[k]?=some o→∃(x:Sl×Heap×AV) (lk:List AV),accF[i+k]?=some x∧Rep N lk x.1∧(tr.getD k default).s=cutS (looks ops o) lk∧(tr.getD k default).h=x.2.1∧(tr.getD k default).v=x.2.2∧(tr.getD k default).c=clsA P ops lk o∧(clsS P ops (i+k)<2∨wantedA ops lk o=some true))∧
  ∀ip∈consL P ops,chkV P C base ops accF H' ip
 | [],i,s,H,acc,Q,h,hl,l,hr=>⟨0,[],l,s,H,acc,rfl,hr,h.1,by simpa using hl,fun _ _ h=>h,fun k o h=>by simp at h,h.2⟩
 | o::os,i,s,H,acc,Q,h,hl,l,hr=>by
  unfold wpOpsV at h
  obtain ⟨hd,hw,h⟩:=h
  obtain ⟨n,v,H1,h1,h3⟩:=wpStep_sound h hr
  obtain ⟨m,tr,l',s',H',accF,h4,h5,h6,h7,h8,h9,h10⟩:=runV h3 (by simp [hl]) (hr.put hd v)
  have e1:stepA P C (n+m) base ops o (cutS (looks ops o) l) H=some (v,H1):=by rw [step_cut];exact stepA_mono (Nat.le_add_right n m) h1
  have e2:=runT_mono (P:=P) (g:=fun o s H=>stepA P C (n+m) base ops o s H) (fun o s H r h=>stepA_mono (Nat.le_add_left m n) h) h4
  refine ⟨n+m,⟨cutS (looks ops o) l,H,v,clsA P ops (cutS (looks ops o) l) o⟩::tr,l',s',H',accF,?_,h5,h6,by simp at h7 ⊢;omega,fun j x hj=>h8 j x (by rw [List.getElem?_append_left (List.getElem?_eq_some_iff.1 hj).1];exact hj),?_,h10⟩
  ·simp only [runT]
   rw [e1]
   simp only
   rw [e2]
   rfl
  ·intro k o' hk
   cases k with
   | zero =>
    simp only [List.getElem?_cons_zero,Option.some.injEq] at hk
    subst hk
    refine ⟨(s,H,v),l,h8 _ _ (by rw [Nat.add_zero,←hl];simp),hr,rfl,rfl,rfl,by rw [cls_cut];rfl,?_⟩
    rcases hw with hw | hw
    ·exact .inl hw
    ·exact .inr (hr.wanted hw)
   | succ k =>
    have:=h9 k o' (by simpa using hk)
    rw [show i+1+k=i+(k+1) by omega] at this
    exact this
theorem fuel_all {ops:Array Oper} {acc:List (Sl×Heap×AV)} {H:Heap}:∀{L:List (Nat×Nat)},(∀ip∈L,chkV P C base ops acc H ip)→∃m,∀ip∈L,∃x o,acc[ip.1]?=some x∧ops[ip.1]?=some o∧∀lk,Rep N lk x.1→∃Hx,(∃m',m'≤m∧stepA P C m' base ops o lk (hAt acc H ip.2)=some (x.2.2,Hx))∨¬Rep N lk x.1:=by
 intro L
 induction L with
 | nil=>intro _;exact ⟨0,fun ip h=>by cases h⟩
 | cons ip L ih =>
  intro h
  obtain ⟨m,hm⟩:=ih fun q hq=>h q (by simp [hq])
  have h0:=h ip (by simp)
  unfold chkV at h0
  cases hx:acc[ip.1]? with
  | none=>rw [hx] at h0;exact h0.elim
  | some x =>
   cases ho:ops[ip.1]? with
   | none=>rw [hx,ho] at h0;exact h0.elim
   | some o =>
    rw [hx,ho] at h0
    simp only at h0
    by_cases hr:∃lk,Rep N lk x.1
    ·obtain ⟨lk,hr⟩:=hr
     obtain ⟨n,v,Hx,h1,h2⟩:=wpStep_sound h0 hr
     refine ⟨max m n,fun q hq=>?_⟩
     rcases List.mem_cons.1 hq with rfl | hq
     ·refine ⟨x,o,hx,ho,fun lk' hr'=>⟨Hx,.inl ⟨n,Nat.le_max_right m n,?_⟩⟩⟩
      have:lk'=lk:=by
       refine List.ext_getElem? fun t=>?_
       by_cases ht:t<N
       ·have a1:=hr'.2 t
        have a2:=hr.2 t
        have b1:t<lk'.length:=by rw [hr'.1];exact ht
        have b2:t<lk.length:=by rw [hr.1];exact ht
        rw [List.getD_eq_getElem?_getD,List.getElem?_eq_getElem b1] at a1
        rw [List.getD_eq_getElem?_getD,List.getElem?_eq_getElem b2] at a2
        rw [List.getElem?_eq_getElem b1,List.getElem?_eq_getElem b2]
        simp only [Option.getD_some] at a1 a2
        rw [a1,a2]
       ·rw [List.getElem?_eq_none (by rw [hr'.1];omega),List.getElem?_eq_none (by rw [hr.1];omega)]
      rw [this,←h2];exact h1
     ·obtain ⟨x',o',a1,a2,a3⟩:=hm q hq
      refine ⟨x',o',a1,a2,fun lk' hr'=>?_⟩
      obtain ⟨Hx',h⟩:=a3 lk' hr'
      refine ⟨Hx',?_⟩
      rcases h with ⟨m',hm',h⟩ | h
      ·exact .inl ⟨m',Nat.le_trans hm' (Nat.le_max_left m n),h⟩
      ·exact .inr h
    ·refine ⟨m,fun q hq=>?_⟩
     rcases List.mem_cons.1 hq with rfl | hq
     ·exact ⟨x,o,hx,ho,fun lk' hr'=>absurd ⟨lk',hr'⟩ hr⟩
     ·exact hm q hq
theorem draw_ruleV {ops:Array Oper} {s:Sl} {H:Heap} {Q:Sl→Heap→Prop} (hst:statB P ops=true) (h:wpOpsV P C N base ops 0 ops.toList s H [] Q):DrawW P C N base ops s H Q:=by
 intro l hr
 obtain ⟨n0,tr,l',s',H',accF,h1,h2,h3,h4,_,h5,h6⟩:=runV h rfl hr
 obtain ⟨m,hm⟩:=fuel_all (N:=N) h6
 have h1':=runT_mono (P:=P) (g:=fun o s H=>stepA P C (n0+m) base ops o s H) (fun o s H r h=>stepA_mono (Nat.le_add_right n0 m) h) h1
 refine ⟨n0+m,tr,l',s',H',h1',?_,h2,h3⟩
 obtain ⟨hlen,_⟩:=runT_spec _ _ _ _ _ _ h1
 have hsz:ops.toList.length=ops.size:=by simp
 have hn:tr.length=ops.size:=by rw [hlen,hsz]
 have hget:∀i o,ops[i]?=some o→ops.toList[i]?=some o:=fun i o h=>by rw [Array.getElem?_toList];exact h
 have hop:∀i,i<ops.size→∃o,ops[i]?=some o:=fun i hi=>⟨_,Array.getElem?_eq_getElem hi⟩
 have hcls:∀i,i<ops.size→(tr.getD i default).c=0∨(tr.getD i default).c=clsS P ops i:=by
  intro i hi
  obtain ⟨o,ho⟩:=hop i hi
  obtain ⟨x,lk,_,_,_,_,_,hc,_⟩:=h5 i o (hget i o ho)
  rw [hc]
  unfold clsA clsS
  rw [ho]
  split
  ·exact .inr rfl
  ·exact .inl rfl
 have hturn:∀i,i<ops.size→¬clsS P ops i<2→(tr.getD i default).c=clsS P ops i:=by
  intro i hi hc
  obtain ⟨o,ho⟩:=hop i hi
  obtain ⟨x,lk,_,_,_,_,_,hc',hw⟩:=h5 i o (hget i o ho)
  rw [Nat.zero_add] at hw
  rcases hw with hw | hw
  ·exact absurd hw hc
  ·rw [hc'];unfold clsA clsS;rw [ho,hw]
 have hin:∀k,k∈(List.range tr.length).filter (fun i=>decide (2≤(tr.getD i default).c))↔k<ops.size∧¬clsS P ops k<2:=by
  intro k
  rw [List.mem_filter,List.mem_range,decide_eq_true_eq,hn]
  constructor
  ·rintro ⟨a,b⟩
   refine ⟨a,fun h=>?_⟩
   rcases hcls k a with h' | h'<;>omega
  ·rintro ⟨a,b⟩
   refine ⟨a,?_⟩
   rw [hturn k a b];omega
 unfold statB at hst
 rw [List.all_eq_true] at hst
 unfold drawOkT drawOk
 simp only
 rw [List.all_eq_true]
 intro i hi
 have hi:i<ops.size:=by rw [←hn];exact List.mem_range.1 hi
 obtain ⟨o,ho⟩:=hop i hi
 have h5':=hst i (List.mem_range.2 hi)
 rw [ho] at h5' ⊢
 simp only [Bool.and_eq_true] at h5' ⊢
 obtain ⟨⟨⟨h6',h7⟩,h8⟩,h9⟩:=h5'
 refine ⟨⟨⟨⟨h6',?_⟩,?_⟩,?_⟩,?_⟩
 ·rw [hn]
  rw [List.all_eq_true] at h7 ⊢
  intro k hk
  have h10:=h7 k hk
  rw [Bool.or_eq_true] at h10 ⊢
  rcases h10 with h10 | h10
  ·exact .inl h10
  ·right
   simp only [Option.bind_some] at h10 ⊢
   exact h10
 ·rcases hcls i hi with h' | h'
  ·simp only [h'];rfl
  ·simp only [h']
   rw [Bool.or_eq_true] at h8 ⊢
   rcases h8 with h8 | h8
   ·exact .inl h8
   ·right
    rw [List.all_eq_true] at h8 ⊢
    intro k hk
    rw [Bool.or_eq_true,decide_eq_true_eq]
    by_cases hik:i≤k
    ·exact .inl hik
    ·right
     have h11:=h8 k (List.mem_range.2 (by omega))
     rw [Bool.or_eq_true,decide_eq_true_eq] at h11
     rcases h11 with h11 | h11
     ·exact absurd h11 ((hin k).1 hk).2
     ·exact h11
 ·rcases hcls i hi with h' | h'
  ·simp only [h'];rfl
  ·simp only [h',hn]
   rw [Bool.or_eq_true] at h9 ⊢
   rcases h9 with h9 | h9
   ·exact .inl h9
   ·right
    rw [List.all_eq_true] at h9 ⊢
    intro j hj
    have h10:=h9 j hj
    rw [Bool.or_eq_true] at h10 ⊢
    rcases h10 with h10 | h10
    ·exact .inl h10
    ·right
     rw [List.all_eq_true] at h10 ⊢
     intro k hk
     rw [Bool.or_eq_true,decide_eq_true_eq]
     by_cases hik:i≤k
     ·exact .inl hik
     ·right
      have h11:=h10 k (List.mem_range.2 (by omega))
      rw [Bool.or_eq_true,decide_eq_true_eq] at h11
      rcases h11 with h11 | h11
      ·exact absurd h11 ((hin k).1 (by rw [hn];exact hk)).2
      ·exact h11
 ·rw [Bool.or_eq_true]
  by_cases hc1:(tr.getD i default).c=1
  ·right
   have hs1:clsS P ops i=1:=by rcases hcls i hi with h' | h'<;>omega
   rw [List.all_eq_true]
   intro p hp
   rw [Bool.or_eq_true]
   by_cases hcons:((List.range tr.length).filter fun i=>decide (2≤(tr.getD i default).c)).all (fun k=>(!befS ops k i||decide (k<p))&&(!befS ops i k||decide (p≤k)))=true
   ·right
    rw [List.all_eq_true] at hcons
    have hp':p≤ops.size:=by
     rcases List.mem_append.1 hp with h | h
     ·exact Nat.le_of_lt ((hin p).1 h).1
     ·simp at h;omega
    have hcl:(i,p)∈consL P ops:=by
     unfold consL
     rw [List.mem_flatMap]
     refine ⟨i,List.mem_range.2 hi,?_⟩
     rw [if_pos (by simp [hs1]),List.mem_map]
     refine ⟨p,?_,rfl⟩
     rw [List.mem_filter,List.mem_range]
     refine ⟨by omega,?_⟩
     unfold consOk
     rw [List.all_eq_true]
     intro k hk
     rw [Bool.or_eq_true,decide_eq_true_eq]
     by_cases hk2:clsS P ops k<2
     ·exact .inl hk2
     ·exact .inr (hcons k ((hin k).2 ⟨List.mem_range.1 hk,hk2⟩))
    obtain ⟨x,o',a1,a2,a3⟩:=hm _ hcl
    obtain ⟨x2,lk,b1,b2,b3,b4,b5,_⟩:=h5 i o (hget i o ho)
    rw [Nat.zero_add] at b1
    simp only at a1 a2
    rw [b1] at a1;cases a1
    rw [ho] at a2;cases a2
    obtain ⟨Hx,h⟩:=a3 lk b2
    rcases h with ⟨m',hm',h⟩ | h
    ·have hheap:(if p<tr.length then (tr.getD p default).h else H')=hAt accF H' p:=by
      unfold hAt
      by_cases hpt:p<tr.length
      ·rw [if_pos hpt]
       obtain ⟨o2,ho2⟩:=hop p (by omega)
       obtain ⟨x3,_,c1,_,_,c4,_⟩:=h5 p o2 (hget p o2 ho2)
       rw [Nat.zero_add] at c1
       rw [c1];exact c4
      ·rw [if_neg hpt,List.getElem?_eq_none (by omega)]
     rw [hheap,b3,b5]
     have:=stepA_mono (m:=n0+m) (by omega) h
     rw [step_cut,this]
     exact beq_refl _
    ·exact absurd b2 h
   ·left
    simp only [Bool.not_eq_true] at hcons
    simp only [befS] at hcons
    rw [Bool.not_eq_true']
    exact hcons
  ·left
   rw [bne_iff_ne];exact hc1
def SemC (P:Program) (C:Cfg) (N base:Nat) (c:Code) (s:Sl) (H:Heap) (Q:Post):Prop:=∀l,Rep N l s→∃n e l' s' H',codeA P C n base c l H=some (e,l',H')∧Rep N l' s'∧Q e s' H'
theorem sem_wp {c:Code} {s:Sl} {H:Heap} {Q:Post} (hst:statC P c=true) (h:wpC P C N base c s H Q):SemC P C N base c s H Q:=fun _ hr=>wpC_sound hst h hr
theorem sem_cut {a b:Code} (M:Sl→Heap→Prop) {s:Sl} {H:Heap} {Q:Post} (h1:SemC P C N base a s H (cutQ M Q)) (h2:∀s H,M s H→SemC P C N base b s H Q):SemC P C N base (.seq a b) s H Q:=by
 intro l hr
 obtain ⟨n,e,l',s',H',h3,h4,h5⟩:=h1 l hr
 cases e with
 | normal =>
  obtain ⟨m,e,l2,s2,H2,h6,h7,h8⟩:=h2 s' H' h5 l' h4
  exact ⟨n+m+1,e,l2,s2,H2,by simp only [codeA];rw [codeA_mono (Nat.le_add_right n m) h3];exact codeA_mono (Nat.le_add_left m n) h6,h7,h8⟩
 | exit i=>exact ⟨n+1,.exit i,l',s',H',by simp only [codeA];rw [h3],h4,h5⟩
 | ret=>exact ⟨n+1,.ret,l',s',H',by simp only [codeA];rw [h3],h4,h5⟩
theorem sem_draw {id:Nat} {ops:Array Oper} {s:Sl} {H:Heap} {Q:Post} (hst:statB P ops=true) (h:wpOpsV P C N base ops 0 ops.toList s H [] (Q .normal)):SemC P C N base (.region id ops true) s H Q:=by
 intro l hr
 obtain ⟨n,tr,l',s',H',h1,h2,h3,h4⟩:=draw_ruleV hst h l hr
 exact ⟨n+1,.normal,l',s',H',by simp only [codeA];rw [h1];simp only;rw [if_pos h2],h3,h4⟩
theorem func_sem {f:FuncId} {fn:Func} {c:Code} {args:List AV} {H:Heap} {K:AV→Heap→Prop} (hf:P.funcs[f]?=some fn) (hc:fn.body=some c) (hp:C.prim f=none) (hn:args.length≤fn.ntmps)
 (h:SemC P C fn.ntmps base c (argS args fn.ntmps) H (retQ P fn.results.toList K)):FuncW P C base f args H K:=by
 obtain ⟨n,e,l',s',H',h1,h2,h3⟩:=h _ (argS_rep hn)
 unfold retQ at h3
 have key:∀vs,resultsF P H' s' fn.results.toList=some vs→(e=.normal∨e=.ret)→funcA P C (n+1) base f args H=some (packA vs,H'):=by
  intro vs hv he
  unfold funcA
  simp only [hp,hf,hc,h1]
  rcases he with rfl | rfl<;>simp [h2.results,hv]
 cases e with
 | exit i=>exact h3.elim
 | normal =>
  simp only at h3
  split at h3
  ·rename_i vs hv;exact ⟨n+1,_,H',key vs hv (.inl rfl),h3⟩
  ·exact h3.elim
 | ret =>
  simp only at h3
  split at h3
  ·rename_i vs hv;exact ⟨n+1,_,H',key vs hv (.inr rfl),h3⟩
  ·exact h3.elim
def chksV (P:Program) (C:Cfg) (base:Nat) (ops:Array Oper) (acc:List (Sl×Heap×AV)) (H:Heap):Prop:=∀ip∈consL P ops,chkV P C base ops acc H ip
def kV (P:Program) (C:Cfg) (N base:Nat) (ops:Array Oper) (i:Nat) (l:List Oper) (d:Option Tmp) (s:Sl) (H:Heap) (acc:List (Sl×Heap×AV)) (Q:Sl→Heap→Prop):AV→Heap→Prop:=fun v H'=>wpOpsV P C N base ops (i+1) l (putF s d v) H' (acc++[(s,H,v)]) Q
@[simp ↓] theorem kV_app (ops:Array Oper) (i:Nat) (l:List Oper) (d:Option Tmp) (s:Sl) (H:Heap) (acc:List (Sl×Heap×AV)) (Q:Sl→Heap→Prop) (v:AV) (H':Heap):kV P C N base ops i l d s H acc Q v H'=wpOpsV P C N base ops (i+1) l (putF s d v) H' (acc++[(s,H,v)]) Q:=Eq.trans rfl rfl
@[simp ↓] theorem wpV_nil (ops:Array Oper) (i:Nat) (s:Sl) (H:Heap) (acc:List (Sl×Heap×AV)) (Q:Sl→Heap→Prop):wpOpsV P C N base ops i [] s H acc Q=(Q s H∧chksV P C base ops acc H):=Eq.trans rfl rfl
@[simp ↓] theorem wpV_cons (ops:Array Oper) (i:Nat) (d:Option Tmp) (op:Op) (t:TypeId) (pos:String) (af:Array Edge) (l:List Oper) (s:Sl) (H:Heap) (acc:List (Sl×Heap×AV)) (Q:Sl→Heap→Prop) :
 wpOpsV P C N base ops i (⟨d,op,t,pos,af,none⟩::l) s H acc Q=(dstOk N d∧wpOp P C base ⟨d,op,t,pos,af,none⟩ s H (kV P C N base ops i l d s H acc Q)):=by
 apply propext
 constructor
 ·rintro ⟨a,_,b⟩;exact ⟨a,b⟩
 ·rintro ⟨a,b⟩;exact ⟨a,.inr rfl,b⟩
@[simp ↓] theorem wpStep_none (ops:Array Oper) (d:Option Tmp) (op:Op) (t:TypeId) (pos:String) (af:Array Edge) (s:Sl) (H:Heap) (K:AV→Heap→Prop):wpStep P C base ops ⟨d,op,t,pos,af,none⟩ s H K=wpOp P C base ⟨d,op,t,pos,af,none⟩ s H K:=Eq.trans rfl rfl
theorem chks_at {ops:Array Oper} {acc:List (Sl×Heap×AV)} {H:Heap} {L:List (Nat×Nat)} (h:consL P ops=L) (hp:∀ip∈L,chkV P C base ops acc H ip):chksV P C base ops acc H:=by unfold chksV;rw [h];exact hp
end Go.Proofs.Ev
namespace Go.Proofs.Ev
open Go.Proofs
variable {C:Cfg} {σ:Sorts}
def lookM (M:List (IdV×List IdV)) (d:IdV):List IdV :=
 match M with
 | []=>[]
 | x::M=>if sameId x.1 d then x.2 else lookM M d
def NeM (M:List (IdV×List IdV)):Prop:=∀x∈M,x.2≠[]
theorem NeM.add {d y:IdV}:∀{M:List (IdV×List IdV)},NeM M→NeM (addM M d y)
 | [],_=>by intro x hx;simp [addM] at hx;subst hx;simp
 | x::M,h=>by
  have h1:=h x (by simp)
  have ih:=NeM.add (d:=d) (y:=y) (M:=M) fun z hz=>h z (by simp [hz])
  intro z hz
  rw [addM] at hz
  split at hz
  ·rcases List.mem_cons.1 hz with rfl | hz
   ·simp
   ·exact h z (by simp [hz])
  ·rcases List.mem_cons.1 hz with rfl | hz
   ·exact h1
   ·exact ih z hz
theorem killP_ne (s:List StoredV):NeM (killP σ s).2:=by
 unfold killP
 have key:∀(l:List AtV) (a:KS),NeM a.2→NeM (l.foldl stepK a).2:=by
  intro l
  induction l with
  | nil=>intro a h;exact h
  | cons x l ih =>
   intro a h
   refine ih _ ?_
   unfold stepK
   split
   ·exact h
   ·have k2:∀(o:List IdV) (a:KS),NeM a.2→NeM (o.foldl (stepO x) a).2:=by
     intro o
     induction o with
     | nil=>intro a h;exact h
     | cons d o ih=>intro a h;exact ih _ h.add
    exact k2 _ _ h
 exact key _ _ (by intro x hx;cases hx)
theorem posK_look:∀(T:List KR) (d:IdV),(∀i v,posK (T.map KR.e) d=some (i,v)→∃t,T[i]?=some t∧v=t.v∧lookM (T.map KR.m) d=t.l)∧(posK (T.map KR.e) d=none→lookM (T.map KR.m) d=[])
 | [],d=>by simp [posK,lookM]
 | x::T,d=>by
  have ih:=posK_look T d
  have hc:posK ((x::T).map KR.e) d=if sameId x.k d then some (0,x.v) else (posK (T.map KR.e) d).map fun p=>(p.1+1,p.2):=rfl
  have ha:lookM ((x::T).map KR.m) d=if sameId x.k d then x.l else lookM (T.map KR.m) d:=rfl
  rw [hc,ha]
  cases hs:sameId x.k d with
  | true=>exact ⟨fun i v h=>by simp at h;obtain ⟨rfl,rfl⟩:=h;exact ⟨x,rfl,rfl,by simp⟩,by simp⟩
  | false =>
   simp only [Bool.false_eq_true,if_false]
   refine ⟨fun i v h=>?_,fun h=>ih.2 (by simpa using h)⟩
   cases hp:posK (T.map KR.e) d with
   | none=>rw [hp] at h;cases h
   | some p =>
    rw [hp] at h
    cases h
    obtain ⟨t,h1,h2,h3⟩:=ih.1 p.1 p.2 hp
    exact ⟨t,by simpa using h1,h2,h3⟩
theorem look_kill (S:Setting C) {V:Heap} {m lo:Nat} {T:List KR} (hm:V[m]?=some (.map (entI (T.map KR.e)))) (hks:KsIs lo T V) (hne:NeM (T.map KR.m)) (d:IdV) :
 (lookM (T.map KR.m) d=[]∧lookupA Tryz.prog C V 88 (.map m) (.agg d.cells) false=some .nils)∨
 (lookM (T.map KR.m) d≠[]∧∃b g,lo≤b∧V[b]?=some (.rows 33 g ((lookM (T.map KR.m) d).map IdV.cells))∧lookupA Tryz.prog C V 88 (.map m) (.agg d.cells) false=some (.sl b g 33 0 (lookM (T.map KR.m) d).length)):=by
 have hf:=find_I S d (T.map KR.e) 0
 obtain ⟨h1,h2⟩:=posK_look T d
 simp only [lookupA,un88,keyOk_I S,entsA,hm,hf,if_true]
 cases hp:posK (T.map KR.e) d with
 | none=>left;exact ⟨h2 hp,by simp⟩
 | some p =>
  obtain ⟨t,ht,hv,hl⟩:=h1 p.1 p.2 hp
  have htm:=List.mem_of_getElem? ht
  obtain ⟨a1,a2⟩:=hks.1 t htm
  right
  rw [hl]
  refine ⟨hne t.m (List.mem_map.2 ⟨t,htm,rfl⟩),t.b,t.g,a1,a2,?_⟩
  simp [hv,KR.v]
end Go.Proofs.Ev
namespace Go.Proofs.Ev
open Go.Proofs
variable {C:Cfg} {σ:Sorts}
theorem rec_d34 (x:IdV) (a:AV) (l:List AV):(x.cells++a::l).drop 34=l:=by rw [drop_skip (n:=33) (by simp) (by decide)];rfl
theorem rec_d35 (x:IdV) (a b:AV) (l:List AV):(x.cells++a::b::l).drop 35=l:=by rw [drop_skip (n:=33) (by simp) (by decide)];rfl
theorem rec_t34 (x:IdV) (a:AV) (l:List AV):(x.cells++a::l).take 34=x.cells++[a]:=by
 rw [List.take_append,List.take_of_length_le (by simp)];simp
theorem rec_t35 (x:IdV) (a b:AV) (l:List AV):(x.cells++a::b::l).take 35=x.cells++[a,b]:=by
 rw [List.take_append,List.take_of_length_le (by simp)];simp
end Go.Proofs.Ev
namespace Go.Proofs.Ev
open Go.Proofs
variable {C:Cfg} {σ:Sorts}
end Go.Proofs.Ev
namespace Go.Proofs.Ev
open Go.Proofs
variable {C:Cfg} {σ:Sorts}
end Go.Proofs.Ev
namespace Go.Proofs.Ev
open Go.Proofs
variable {C:Cfg} {σ:Sorts}
end Go.Proofs.Ev
namespace Go.Proofs.Ev
open Go.Proofs
variable {C:Cfg} {σ:Sorts}
theorem same_id (x:IdV):sameId x x=true:=by simp [sameId]
end Go.Proofs.Ev
namespace Go.Proofs.Ev
open Go.Proofs
variable {σ:Sorts}
end Go.Proofs.Ev
namespace Go.Proofs.Ev
open Go.Proofs
variable {σ:Sorts}
def Named (s:List StoredV):Prop:=∀x∈s,x.patch.dig.d=x.id.d
theorem uniq:∀{s:List StoredV},s.Pairwise (fun x y=>x.id.d≠y.id.d)→∀{x y:StoredV},x∈s→y∈s→x.id.d=y.id.d→x=y
 | [],_,x,y,hx,_,_=>by simp at hx
 | a::s,h,x,y,hx,hy,he=>by
  obtain ⟨h1,h2⟩:=List.pairwise_cons.1 h
  rcases List.mem_cons.1 hx with h3 | h3
  ·rcases List.mem_cons.1 hy with h4 | h4
   ·rw [h3,h4]
   ·rw [h3] at he;exact absurd he (h1 y h4)
  ·rcases List.mem_cons.1 hy with h4 | h4
   ·rw [h4] at he;exact absurd he.symm (h1 x h3)
   ·exact uniq h2 h3 h4 he
theorem getP_mem {s:List StoredV} (hs:SetGood s) {x:StoredV} (hx:x∈s):hasS s x.id.d=true∧getP s x.id.d=x.patch:=by
 have h:hasS s x.id.d=true:=by unfold hasS;rw [List.find?_isSome];exact ⟨x,hx,by simp⟩
 obtain ⟨_,y,hy,h1,h2⟩:=getP_good hs h
 refine ⟨h,?_⟩
 rw [←h2]
 rw [uniq hs.2.1 hy hx h1]
theorem atoms_id {p:PatchV} (hp:p.Good) {i:Nat} {a:AtV} (h:(atomsP σ p)[i]?=some a):a.id.d=p.dig.d∧a.id.n=(i:Int):=by
 unfold atomsP at h
 rw [List.getElem?_map] at h
 cases hc:(checkL p)[i]? with
 | none=>rw [hc] at h;cases h
 | some y =>
  rw [hc] at h
  simp at h;subst h
  rw [hp.atoms] at hc
  have:=atomsOf_id p.changes [] (by intro i y h;simp at h) i y hc
  have hid:(atP σ p.dig y).id=wholeV y.id p.dig:=by
   show (at4 p.dig (at3 p.dig (at2 p.dig (atI p.dig y)))).id=_
   unfold at4 at3 at2
   repeat' split
   all_goals rfl
  rw [hid,this]
  have hz:zeroD zeroId.d=true:=by decide
  have hw:wholeV (ownId (i:Int)) p.dig=⟨p.dig.d,(i:Int),p.dig.h,p.dig.b⟩:=by
   unfold wholeV ownId
   rw [if_pos (by simp [hz])]
  rw [hw]
  exact ⟨rfl,rfl⟩
theorem atoms_find {p:PatchV} (hp:p.Good) {a:AtV} (h:a∈atomsP σ p):(atomsP σ p).find? (fun x=>sameId x.id a.id)=some a:=by
 obtain ⟨i,hi,rfl⟩:=List.getElem_of_mem h
 obtain ⟨L,hL⟩:∃L,L=atomsP σ p:=⟨_,rfl⟩
 have hid:=fun j a=>atoms_id (σ:=σ) hp (i:=j) (a:=a)
 rw [←hL] at hid
 simp only [←hL] at hi ⊢
 obtain ⟨d1,n1⟩:=hid i _ (List.getElem?_eq_getElem hi)
 rw [List.find?_eq_some_iff_getElem]
 refine ⟨same_id _,i,hi,rfl,fun j hj=>?_⟩
 obtain ⟨d2,n2⟩:=hid j _ (List.getElem?_eq_getElem (by omega))
 simp [sameId,n1,n2]
 exact .inr (by omega)
theorem find_mem {s:List StoredV} (hs:SetGood s) (hn:Named s) {x:StoredV} (hx:x∈s) {a:AtV} (ha:a∈atomsP σ x.patch):findP σ s a.id=some a:=by
 have hp:=hs.1 x hx
 obtain ⟨i,hi⟩:=List.getElem?_of_mem ha
 have hd:=(atoms_id hp hi).1
 rw [hn x hx] at hd
 obtain ⟨h1,h2⟩:=getP_mem hs hx
 unfold findP
 rw [hd,h1,if_pos rfl,h2]
 exact atoms_find hp ha
end Go.Proofs.Ev
namespace Go.Proofs.Ev
open Go.Proofs
variable {σ:Sorts}
theorem cover {α:Type} [DecidableEq α]:∀{l m:List α},l.Nodup→(∀x∈l,x∈m)→m.length≤l.length→(∀x∈m,x∈l)∧m.Nodup
 | [],m,_,_,h=>by
  have:m=[]:=List.length_eq_zero_iff.1 (by simpa using h)
  subst this;simp
 | a::l,m,hn,hs,h=>by
  obtain ⟨h1,h2⟩:=List.nodup_cons.1 hn
  have ha:=hs a (by simp)
  have hp:=List.perm_cons_erase ha
  have hlen:=List.length_erase_of_mem ha
  have hpos:0<m.length:=List.length_pos_of_mem ha
  obtain ⟨i1,i2⟩:=cover (l:=l) (m:=m.erase a) h2 (fun x hx=>(List.mem_erase_of_ne (fun e=>h1 (by rw [←e];exact hx))).2 (hs x (by simp [hx]))) (by simp at h;omega)
  refine ⟨fun x hx=>?_,?_⟩
  ·rcases List.mem_cons.1 (hp.mem_iff.1 hx) with e | e
   ·rw [e];simp
   ·exact List.mem_cons_of_mem _ (i1 x e)
  ·rw [hp.nodup_iff]
   exact List.nodup_cons.2 ⟨fun hc=>h1 (i1 a hc),i2⟩
def digs (l:List DigV):List (List Nat):=l.map fun x=>x.d
theorem hasD_mem {l:List DigV} {d:List Nat}:hasD l d=true↔d∈digs l:=by rw [hasD_iff];simp [digs]
theorem digs_snoc {out:List DigV} {d:DigV} (h:(digs out).Nodup) (h1:hasD out d.d=false):(digs (out++[d])).Nodup:=by
 have:digs (out++[d])=digs out++[d.d]:=by simp [digs]
 rw [this,List.nodup_append]
 refine ⟨h,by simp,fun a ha b hb=>?_⟩
 simp at hb;subst hb
 rintro rfl
 rw [hasD_mem.2 ha] at h1;cases h1
theorem Ordered.nodup {s:List StoredV} {out:List DigV} (h:Ordered s out):(digs out).Nodup∧∀d∈digs out,d∈digs (s.map fun x=>x.id):=by
 induction h with
 | nil=>simp [digs]
 | snoc h hx h1 h2 ih =>
  refine ⟨digs_snoc ih.1 h1,fun d hd=>?_⟩
  simp only [digs,List.map_append,List.mem_append,List.map_cons,List.map_nil,List.mem_singleton] at hd
  rcases hd with hd | rfl
  ·exact ih.2 d hd
  ·simp only [digs,List.map_map,List.mem_map];exact ⟨_,hx,rfl⟩
theorem Ordered.next {s:List StoredV} {O out:List DigV} (h:Ordered s O):(∀d∈digs O,hasD out d=true)∨∃x∈s,hasD out x.id.d=false∧allD out (needsR x.patch).2=true:=by
 induction h with
 | nil=>exact .inl (by simp [digs])
 | snoc h hx h1 h2 ih =>
  rename_i O x
  rcases ih with ih | ih
  ·by_cases hh:hasD out x.id.d=true
   ·refine .inl fun d hd=>?_
    simp only [digs,List.map_append,List.mem_append,List.map_cons,List.map_nil,List.mem_singleton] at hd
    rcases hd with hd | rfl
    ·exact ih d hd
    ·exact hh
   ·refine .inr ⟨x,hx,by simpa using hh,?_⟩
    unfold allD at h2 ⊢
    rw [List.all_eq_true] at h2 ⊢
    intro y hy
    exact ih _ (hasD_mem.1 (h2 y hy))
  ·exact .inr ih
theorem ordP_nodup (s:List StoredV):∀(n:Nat) (out:List DigV),(digs out).Nodup→(digs (ordP σ s n out)).Nodup
 | 0,out,h=>h
 | n+1,out,h=>by
  rw [ordP]
  cases hf:s.find? (okP σ out) with
  | none=>exact h
  | some x =>
   have:=List.find?_some hf
   simp only [okP,Bool.and_eq_true,Bool.not_eq_true'] at this
   exact ordP_nodup s n _ (digs_snoc h this.1)
theorem ordP_full {s:List StoredV} {O:List DigV} (hO:Ordered s O) (hN:∀x∈s,∀out,allD out (needsR x.patch).2=true→allD out (needsP σ x.patch)=true):∀(n:Nat) (out:List DigV),(∀d∈digs O,hasD (ordP σ s n out) d=true)∨(ordP σ s n out).length=out.length+n
 | 0,out=>.inr rfl
 | n+1,out=>by
  rw [ordP]
  cases hf:s.find? (okP σ out) with
  | none =>
   rcases hO.next (out:=out) with h | ⟨x,hx,h1,h2⟩
   ·exact .inl h
   ·rw [List.find?_eq_none] at hf
    have:=hf x hx
    simp [okP,h1,hN x hx out h2] at this
  | some x =>
   rcases ordP_full hO hN n (out++[x.id]) with h | h
   ·exact .inl h
   ·refine .inr ?_
    simp only
    rw [h];simp;omega
theorem ordP_cov {s:List StoredV} {O:List DigV} (hO:Ordered s O) (hl:s.length≤O.length) (hN:∀x∈s,∀out,allD out (needsR x.patch).2=true→allD out (needsP σ x.patch)=true):s.Pairwise (fun x y=>x.id.d≠y.id.d)∧∀x∈s,hasD (ordP σ s s.length []) x.id.d=true:=by
 obtain ⟨n1,n2⟩:=hO.nodup
 have hD:(digs (s.map fun x=>x.id)).length=s.length:=by simp [digs]
 obtain ⟨c1,c2⟩:=cover n1 n2 (by rw [hD];simpa [digs] using hl)
 have hm:∀x∈s,x.id.d∈digs (s.map fun x=>x.id):=fun x hx=>by simp only [digs,List.map_map,List.mem_map];exact ⟨x,hx,rfl⟩
 refine ⟨?_,fun x hx=>?_⟩
 ·have:digs (s.map fun x=>x.id)=s.map fun x=>x.id.d:=by simp [digs]
  rw [this] at c2
  exact List.pairwise_map.1 c2
 ·rcases ordP_full (σ:=σ) hO hN s.length [] with h | h
  ·exact h _ (c1 _ (hm x hx))
  ·have p1:=ordP_nodup (σ:=σ) s s.length [] (by simp [digs])
   have p2:∀d∈digs (ordP σ s s.length []),d∈digs (s.map fun x=>x.id):=by
    intro d hd
    simp only [digs,List.mem_map] at hd
    obtain ⟨e,he,rfl⟩:=hd
    rcases ordP_mem s _ _ e he with h | ⟨x,hx,rfl⟩
    ·simp at h
    ·exact hm x hx
   obtain ⟨q1,_⟩:=cover p1 p2 (by rw [hD];simp [digs,h])
   exact hasD_mem.2 (q1 _ (hm x hx))
theorem withs_mem:∀(l:List DigV) (a:SK×List DigV) (d:List Nat),((∃x∈a.2,x.d=d)∨∃x∈l,x.d=d)→∃x∈(l.foldl withR a).2,x.d=d
 | [],a,d,h=>by simpa using h
 | y::l,a,d,h=>by
  refine withs_mem l (withR a y) d ?_
  rcases h with h | ⟨x,hx,rfl⟩
  ·exact .inl (withR_mem.2 (.inl h))
  ·rcases List.mem_cons.1 hx with rfl | hx
   ·exact .inl (withR_mem.2 (.inr rfl))
   ·exact .inr ⟨x,hx,rfl⟩
theorem addN_mem:∀(l:List IdV) (a:SK×List DigV) (d:List Nat),((∃x∈a.2,x.d=d)∨∃x∈l,x.d=d∧zeroD x.d=false)→∃x∈(l.foldl addN a).2,x.d=d
 | [],a,d,h=>by simpa using h
 | y::l,a,d,h=>by
  refine addN_mem l (addN a y) d ?_
  have hk:(∃x∈a.2,x.d=d)→∃x∈(addN a y).2,x.d=d:=fun h=>by
   unfold addN;split
   ·exact h
   ·exact withR_mem.2 (.inl h)
  rcases h with h | ⟨x,hx,rfl,hz⟩
  ·exact .inl (hk h)
  ·rcases List.mem_cons.1 hx with rfl | hx
   ·left
    unfold addN
    rw [if_neg (by simp [hz])]
    exact withR_mem.2 (.inr rfl)
   ·exact .inr ⟨x,hx,rfl,hz⟩
theorem chgN_mem:∀(l:List ChV) (a:SK×List DigV) (d:List Nat),((∃x∈a.2,x.d=d)∨∃c∈l,∃x∈idsN c,x.d=d∧zeroD x.d=false)→∃x∈(l.foldl chgN a).2,x.d=d
 | [],a,d,h=>by simpa using h
 | y::l,a,d,h=>by
  refine chgN_mem l (chgN a y) d ?_
  rcases h with h | ⟨c,hc,x,hx,h1,h2⟩
  ·exact .inl (addN_mem _ _ _ (.inl h))
  ·rcases List.mem_cons.1 hc with rfl | hc
   ·exact .inl (addN_mem _ _ _ (.inr ⟨x,hx,h1,h2⟩))
   ·exact .inr ⟨c,hc,x,hx,h1,h2⟩
theorem refIds_sub {c:ChV} {x:IdV} (h:x∈refIds c):x∈idsN c:=by
 unfold refIds refsA refs1 refs2 refs3 refs4 at h
 unfold idsN
 simp only [List.take_length,List.map_append,List.mem_append,List.map_map] at h
 rcases h with h | h | h | h
 ·split at h
  ·simp at h;simp [h]
  ·simp at h
 ·split at h
  ·simp at h;simp [h]
  ·simp at h
 ·split at h
  ·simp at h;rcases h with h | h<;>simp [h]
  ·simp at h
 ·simp at h;simp [h]
theorem needs_sub (hd:∀l,(σ.d l).Perm l) {p:PatchV} (hp:EncodeE p=0) {d:DigV} (h:d∈needsP σ p):∃x∈(needsR p).2,x.d=d.d:=by
 obtain ⟨y,hy,hyd⟩:=(compL_mem (σ.d (needL p)) d.d).1 ⟨d,h,rfl⟩
 have hy:=(hd _).mem_iff.1 hy
 unfold needsR
 rw [if_neg (by simp [hp])]
 rw [←hyd]
 unfold needL at hy
 refine chgN_mem _ _ _ ?_
 rcases List.mem_append.1 hy with hy | hy
 ·exact .inl (withs_mem _ _ _ (.inr ⟨y,hy,rfl⟩))
 ·right
  obtain ⟨l,hl,hyl⟩:=List.mem_flatten.1 hy
  obtain ⟨c,hc,rfl⟩:=List.mem_map.1 hl
  unfold others at hyl
  obtain ⟨x,hx,rfl⟩:=List.mem_map.1 hyl
  obtain ⟨h1,h2⟩:=List.mem_filter.1 hx
  exact ⟨c,hc,x,refIds_sub h1,rfl,by simpa using h2⟩
theorem needs_all (hd:∀l,(σ.d l).Perm l) {p:PatchV} (hp:EncodeE p=0) (out:List DigV) (h:allD out (needsR p).2=true):allD out (needsP σ p)=true:=by
 unfold allD at h ⊢
 rw [List.all_eq_true] at h ⊢
 intro d hdm
 obtain ⟨x,hx,hxd⟩:=needs_sub hd hp hdm
 rw [←hxd];exact h x hx
theorem chk1_ok:∀(l:List StoredV) (p:Option DigV),chk1 p l=0→∀x∈l,EncodeE x.patch=0∧IdD x.patch=x.id.d
 | [],p,_,x,hx=>by simp at hx
 | y::l,p,h,x,hx=>by
  rw [chk1_cons] at h
  by_cases h1:EncodeE y.patch=0
  rotate_left
  ·rw [if_pos h1] at h;exact absurd h h1
  rw [if_neg (by simpa using h1)] at h
  by_cases h2:IdD y.patch=y.id.d
  rotate_left
  ·rw [if_pos h2] at h;cases h
  rw [if_neg (by simpa using h2)] at h
  rcases List.mem_cons.1 hx with e | hx
  ·rw [e];exact ⟨h1,h2⟩
  ·refine chk1_ok l (some y.id) ?_ x hx
   cases p with
   | none=>simpa using h
   | some y' =>
    by_cases h3:0≤cmpD y'.d (IdD y.patch)
    ·rw [if_pos (by simpa using h3)] at h;cases h
    ·rw [if_neg (by simpa using h3)] at h;exact h
theorem small_of {p:PatchV} (hg:great16 p=false):(checkL p).length≤90000:=by
 unfold great16 at hg
 simp only [Bool.or_eq_false_iff,decide_eq_false_iff_not,Nat.not_lt,List.any_eq_false] at hg
 obtain ⟨h1,⟨_,h2⟩,h3⟩:=hg
 have h4:∀c∈p.changes,c.lines.length≤40∧c.over.length≤40:=by
  intro c hc
  have:=h1 c hc
  simp only [bigC,great4,Bool.or_eq_true,decide_eq_true_eq,not_or,Nat.not_lt] at this
  exact ⟨this.1.1,this.2⟩
 have hb:=chgE_bound p.changes [] h4 (by simp)
 have hL:checkL p=[]∨checkL p=(chgE p.changes []).2:=by unfold checkL;split<;>simp
 rcases hL with h | h<;>rw [h]
 ·simp
 ·have:=hb.1;simp at this;omega
structure SetFine (σ:Sorts) (s:List StoredV):Prop where
 good:SetGood s
 n:s.length≤8
 named:Named s
 cov:∀x∈s,hasD (ordP σ s s.length []) x.id.d=true
theorem fine_of (hd:∀l,(σ.d l).Perm l) {s:List StoredV} (hz:SetSz s) (h:fineB s=true):SetFine σ s:=by
 unfold fineB at h
 simp only [Bool.and_eq_true,Bool.not_eq_true',beq_iff_eq] at h
 obtain ⟨h1,h2⟩:=h
 have hF:=setFit_of hz h1
 unfold chkE at h2
 split at h2
 ·omega
 rename_i c1
 split at h2
 ·omega
 split at h2
 ·omega
 rename_i c3
 have k1:=chk1_ok s none (by omega)
 have hsm:∀x∈s,(checkL x.patch).length≤90000:=by
  intro x hx
  refine small_of ?_
  unfold heavyB at h1
  simp only [Bool.or_eq_false_iff,List.any_eq_false] at h1
  have:=h1.1 x (by rw [List.take_of_length_le (by have:=hF.n;omega)];exact hx)
  simpa using this
 have hg:∀x∈s,x.patch.Good:=fun x hx=>⟨hF.p x hx,(k1 x hx).1,hsm x hx⟩
 obtain ⟨o1,o2⟩:=ordP_cov (σ:=σ) (ordN_ordered s s.length [] .nil) (by omega) (fun x hx out=>needs_all hd (k1 x hx).1 out)
 refine ⟨⟨hg,o1,by have:=hF.n;omega⟩,hF.n,fun x hx=>?_,o2⟩
 have:=(k1 x hx).2
 unfold IdD at this
 rw [if_pos (k1 x hx).1] at this
 exact this
end Go.Proofs.Ev
namespace Go.Proofs.Ev
open Go.Proofs
variable {C:Cfg} {σ:Sorts}
end Go.Proofs.Ev
namespace Go.Proofs.Ev
open Go.Proofs
variable {N:Low}
def vBlame:AV:=.tup [.lst [(idA d1 3).cells++[.str [121],.int .i64 0]] false,.int .i64 0]
def rowsB:List Row:=⟨48,[set2],.lst [.str [102]::(idA d1 0).cells] false⟩::⟨49,[set2,.agg (idA d1 0).cells],.tup [grA,.int .i64 0]⟩::⟨51,[grA],.lst [[.bool false,.lst [[.int .i64 1]] false,.nils]] false⟩::rowsI
set_option maxRecDepth 100000 in
theorem run_blame:((Rsp.v (evK Tryz.prog (cfgR rowsB) 3000 (.func 0 17 [set2,.str [102]] []))).bind fun r=>freezeA r.2 0 6 r.1)=some vBlame:=by kernel_rfl
def rowsC:List Row:=⟨15,[.nils,.agg p1.cells],.tup [set1,.agg d1.cells,.int .i64 0]⟩::⟨15,[set1,.agg p2.cells],.tup [set2,.agg d2.cells,.int .i64 0]⟩::⟨17,[set2,.str [102]],vBlame⟩ ::
 ⟨7,[set2,.agg (idA d1 2).cells],.tup [.lst [.int .i64 1::(d1.cells++(idA d1 2).cells),.int .i64 2::(d2.cells++(idA d2 0).cells)] false,.int .i64 0]⟩::⟨18,[set2,.agg (idA d1 0).cells],.tup [.lst [d1.cells,d2.cells] false,.int .i64 0]⟩::rowsI
set_option maxRecDepth 100000 in
theorem run_awake:((Rsp.v (evK Tryz.prog (cfgR rowsC) 3000 (.func 0 6 [] []))).bind fun r=>freezeA r.2 0 6 r.1)=some (.bool true):=by kernel_rfl
theorem rowsB_ok (hT:TagOK Tryz.prog N) (hG:TagHere N) (hL:LowTab N):∀r∈rowsB,RowOK N r:=by
 have h0:=rowsI_ok hT hG hL
 intro r hr
 simp only [rowsB,List.mem_cons] at hr
 rcases hr with rfl | rfl | rfl | hr
 ·exact row_fast hT h0 run_paths (by kernel_rfl) (by kernel_rfl) ⟨_,Tryz.func48,rfl⟩
 ·exact row_fast hT h0 run_of (by kernel_rfl) (by kernel_rfl) ⟨_,Tryz.func49,rfl⟩
 ·exact row_fast hT h0 run_regions (by kernel_rfl) (by kernel_rfl) ⟨_,Tryz.func51,rfl⟩
 ·exact h0 r hr
theorem rowsC_ok (hT:TagOK Tryz.prog N) (hG:TagHere N) (hL:LowTab N):∀r∈rowsC,RowOK N r:=by
 have h0:=rowsI_ok hT hG hL
 intro r hr
 simp only [rowsC,List.mem_cons] at hr
 rcases hr with rfl | rfl | rfl | rfl | rfl | hr
 ·exact row_fast hT h0 run_add1 (by kernel_rfl) (by kernel_rfl) ⟨_,Tryz.func15,rfl⟩
 ·exact row_fast hT h0 run_add2 (by kernel_rfl) (by kernel_rfl) ⟨_,Tryz.func15,rfl⟩
 ·exact row_fast hT (rowsB_ok hT hG hL) run_blame (by kernel_rfl) (by kernel_rfl) ⟨_,Tryz.func17,rfl⟩
 ·exact row_fast hT h0 run_events (by kernel_rfl) (by kernel_rfl) ⟨_,Tryz.func7,rfl⟩
 ·exact row_fast hT h0 run_touch (by kernel_rfl) (by kernel_rfl) ⟨_,Tryz.func18,rfl⟩
 ·exact h0 r hr
def pAwake:Nat→List AV→Heap→Option (AV×Heap):=tabP [⟨6,[],.bool true⟩] 6
theorem awake_ok (hT:TagOK Tryz.prog N) (hG:TagHere N) (hL:LowTab N):PrimOK Tryz.prog N 6 pAwake :=
 tab_ok (fun r hr=>by
  rw [List.mem_singleton.1 hr]
  exact row_fast hT (rowsC_ok hT hG hL) run_awake rfl rfl ⟨_,Tryz.func6,rfl⟩) rfl
theorem awake_ret:Ret Tryz.prog (cfgT pAwake) 6 [] [] (.bool true):=by
 intro base H
 have h1:(cfgT pAwake).pure 6=false:=by kernel_rfl
 have h2:(cfgT pAwake).frz 6=true:=by kernel_rfl
 refine ⟨2,?_⟩
 simp only [callA,h1,h2,Bool.false_eq_true,if_false,if_true,List.append_nil,List.mapM_nil,funcA,primT_9]
 rfl
end Go.Proofs.Ev
namespace Go.Proofs.Ev
open Go.Proofs Go.RowKit
open Go.Proofs.YtckbkhfaahpanaaGreatDoor (Rows.laid_math_bits_deBruijn32tab Rows.laid_math_bits_deBruijn64tab Rows.laid_internal_strconv_uint64pow10)
section
variable {W:World}
def lowOf (W:World):Low:=⟨W.heap.size,fun g T=>(g=1→T=372)∧(g=2→T=5),fun cb=>match W.heap[cb]? with | some (.cells c T fr)=>some (c,T,fr) | _=>none⟩
theorem tag_here:TagHere (lowOf W):=⟨fun _ h=>h.1 rfl,fun _ h=>h.2 rfl⟩
theorem tags_all:(List.range Tryz.prog.types.size).all (fun t=>(tagG Tryz.prog t != 1||t==372)&&(clsG Tryz.prog t 1 != 2||t==5))=true:=by kernel_rfl
theorem table_ok:tableOK Tryz.prog=true:=by kernel_rfl
theorem tag_ok:TagOK Tryz.prog (lowOf W):=by
 have all:∀t:TypeId,t<Tryz.prog.types.size→(tagG Tryz.prog t=1→t=372)∧(clsG Tryz.prog t 1=2→t=5):=by
  intro t ht
  have:=List.all_eq_true.1 tags_all t (List.mem_range.2 ht)
  simp only [Bool.and_eq_true,Bool.or_eq_true,bne_iff_ne,ne_eq,beq_iff_eq] at this
  exact ⟨fun h=>this.1.resolve_left fun h1=>h1 h,fun h=>this.2.resolve_left fun h1=>h1 h⟩
 refine ⟨fun t h=>?_,fun t h=>?_⟩
 ·by_cases ht:t<Tryz.prog.types.size
  ·exact ⟨fun _=>(all t ht).1 h,fun e=>by cases e⟩
  ·exact absurd h (tag_high table_ok ht)
 ·by_cases ht:t<Tryz.prog.types.size
  ·exact ⟨fun e=>(by cases e),fun _=>(all t ht).2 h⟩
  ·exact absurd h (cls_high ht)
theorem hr0:HR (lowOf W) phi0 [] W:={
 low:=Nat.le_refl _
 kept cb c T fr h:=by
  refine ⟨?_,live0 cb⟩
  simp only [lowOf] at h
  split at h
  ·rename_i c' T' fr' hh;cases h;exact hh
  ·cases h
 dead b _:=rfl
 base b L h:=by cases h
 inj b b' L L' h:=by cases h
 resn b L h:=by cases h
 ress cb h:=h.elim
 rows b esz g rs h:=by simp at h
 map b es h:=by simp at h
 loop b r p s ps a c h:=by simp at h
 it b m k st h:=by simp at h }
theorem low_tab (h:Lib.TabIs Tryz.prog W "internal/strconv.uint64pow10" .u64 Lib.pow10Tab):LowTab (lowOf W):=by
 intro φ w hk
 unfold Lib.TabIs World.var? at h ⊢
 cases hg:Tryz.prog.globalNamed "internal/strconv.uint64pow10" with
 | none=>rw [hg] at h;cases h
 | some g =>
  rw [hg] at h
  simp only [Option.bind_some] at h ⊢
  cases hh:W.heap[g]? with
  | none=>rw [hh] at h;cases h
  | some o =>
   rw [hh] at h
   cases o with
   | cells c T fr =>
    have:=(hk g c T fr (by simp [lowOf,hh])).1
    rw [this];exact h
   | _=>cases h
theorem below_of {φ':Phi} {n n':Nat} {w':World} (h:Ext phi0 n W φ' n' w'):Below W.heap.size W w':={
 os:=h.env.1
 tape:=h.env.2.1
 output:=h.env.2.2
 size:=h.size
 block k hk:=by
  rw [Array.getElem?_eq_getElem hk]
  exact h.same k _ (Array.getElem?_eq_getElem hk) (live0 k) }
def laidL:List (String×DataW Unit):=[("math/bits.deBruijn32tab",Rows.laid_math_bits_deBruijn32tab),("math/bits.deBruijn64tab",Rows.laid_math_bits_deBruijn64tab),("internal/strconv.uint64pow10",Rows.laid_internal_strconv_uint64pow10)]
theorem pow_data:(Rows.laid_internal_strconv_uint64pow10:DataW Unit)=Lib.tabData .u64 Lib.pow10Tab:=by kernel_rfl
theorem tab_of (h:laidMetH Tryz.prog laidL W):Lib.TabIs Tryz.prog W "internal/strconv.uint64pow10" .u64 Lib.pow10Tab:=by
 rw [MakeChecks.laidMetH_plain _ _ _ (by kernel_rfl)] at h
 have h1:=h.tail.tail
 rw [pow_data] at h1
 exact Lib.tabIs_of_head (g:=1) (t:=422) (e:=276) (n:=20) (by kernel_rfl) (by kernel_rfl) Tryz.underlying422 Tryz.underlying276 (by kernel_rfl) (by kernel_rfl) h1
end
end Go.Proofs.Ev
