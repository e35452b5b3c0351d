/- Part 14 of the proof that quiltlaw38.BlameHistory returns true: no statement of its own. -/
import Derived.Test.YtkicailcmamaiaaGreatDoorH11
set_option linter.all false
namespace Go.Proofs.Ev
open Go.Proofs
variable {C:bD}
structure aA.Fit (p:aA):Prop where
 ok:p.Ok
 ok2:p.Ok2
 deps:p.deps.length≤1000
 changes:p.changes.length≤1000
 over:∀c∈p.changes,c.over.length≤400
 atoms:(aT p).length≤2^20
 atomOver:∀x∈aT p,x.over.length≤2^10
theorem lF {b:Nat}:∀{l:List SX},(∀x∈l,x.nodes≤b)→SX.nodess l≤b*l.length
 | [],_=>by simp [SX.nodess]
 | x::l,h=>by
  have:=lF (l:=l) fun y hy=>h y (by simp [hy])
  have:=h x (by simp)
  simp only [SX.nodess,List.length_cons,Nat.mul_add];omega
theorem nodess_append:∀a b:List SX,SX.nodess (a++b)=SX.nodess a+SX.nodess b
 | [],b=>by simp [SX.nodess]
 | x::a,b=>by simp only [List.cons_append,SX.nodess,nodess_append a b];omega
theorem km (l:List SX) (k:SK):(fp l k).nodes=SX.nodess l+1:=rfl
theorem pp (s:List UInt8):(bO s).nodes=1:=rfl
theorem nU (n:Int):(fR n).nodes=1:=rfl
theorem wq (d:List Nat):(jB d).nodes=1:=by unfold jB;split<;>rfl
theorem rh (x:aC):(dI x).nodes=3:=by simp [dI,km,SX.nodess,wq,nU]
theorem BJ (l:List aC):(nF l).nodes≤3*l.length+1:=by
 have:=lF (l:=l.map dI) (b:=3) fun x hx=>by obtain ⟨y,_,rfl⟩:=List.mem_map.1 hx;rw [rh];omega
 rw [nF,km];simp at this;omega
theorem zA (l:List (List UInt8)):(nz l).nodes≤l.length+1:=by
 have:=lF (l:=l.map bO) (b:=1) fun x hx=>by obtain ⟨y,_,rfl⟩:=List.mem_map.1 hx;rw [pp];omega
 rw [nz,km];simp at this;omega
theorem Ej (c:aW) (h1:c.lines.length≤40) (h2:c.over.length≤40):(lq c).nodes≤200:=by
 have a1:SX.nodess (mO c)≤3:=by unfold mO;split<;>simp [SX.nodess,rh]
 have a2:SX.nodess (jH c)≤6:=by unfold jH;repeat' split
                                all_goals simp [SX.nodess,rh,nU,pp]
 have a3:SX.nodess (yM c)≤130:=by
  have:=BJ c.over
  have:=zA c.lines
  unfold yM;repeat' split
  all_goals simp [SX.nodess]
  all_goals omega
 rw [lq,km,kH,SX.nodess,nodess_append,nodess_append,nU];omega
theorem BK (p:aA) (h1:p.deps.length≤20) (h2:p.changes.length≤20) (h3:∀c∈p.changes,c.lines.length≤40∧c.over.length≤40):(dC p).nodes≤2^40:=by
 have a1:=lF (l:=p.deps.map fun d=>jB d.d) (b:=1) fun x hx=>by obtain ⟨y,_,rfl⟩:=List.mem_map.1 hx;rw [wq];omega
 have a2:=lF (l:=p.changes.map lq) (b:=200) fun x hx=>by obtain ⟨y,hy,rfl⟩:=List.mem_map.1 hx;exact Ej y (h3 y hy).1 (h3 y hy).2
 simp only [List.length_map] at a1 a2
 simp only [dC,km,SX.nodess,pp,nU];omega
theorem Eb {c:aW} {f:Nat}:∀x∈cH c f,x.over=[]∨x.over=c.over:=by
 intro x hx
 unfold cH at hx
 repeat' split at hx
 all_goals first
  | (simp only [List.mem_singleton] at hx;subst hx;simp [bV];done)
  | (rcases List.mem_append.1 hx with hx | hx<;>obtain ⟨i,_,rfl⟩:=List.mem_map.1 hx<;>exact .inl rfl)
theorem Ea (c:aW) (f:Nat) (h:c.lines.length≤40):(cH c f).length≤81:=by
 unfold cH;repeat' split
 all_goals simp
 all_goals omega
theorem oQ:∀(l:List aW) (own:List aG),(∀c∈l,c.lines.length≤40∧c.over.length≤40)→(∀x∈own,x.over.length≤40)→(j6 l own).2.length≤own.length+81*l.length∧∀x∈(j6 l own).2,x.over.length≤40
 | [],own,_,ho=>by simp [j6];exact ho
 | c::l,own,h,ho=>by
  rw [j6]
  by_cases h1:gW c≠0
  ·rw [if_pos h1];simp
  ·rw [if_neg h1]
   by_cases h2:lJ c own≠0
   ·rw [if_pos h2];simp
   ·rw [if_neg h2]
    have hc:=h c (by simp)
    have hm:=Ea c own.length hc.1
    have:=oQ l (own++cH c own.length) (fun c hc=>h c (by simp [hc])) (by
     intro x hx
     rcases List.mem_append.1 hx with hx | hx
     ·exact ho x hx
     ·rcases Eb x hx with h | h<;>rw [h]
      ·simp
      ·exact hc.2)
    refine ⟨?_,this.2⟩
    have h3:=this.1
    simp only [List.length_append,List.length_cons] at h3 ⊢;omega
theorem xA {p:aA} (hs:p.Sz) (hg:eB p=false):p.Fit∧p.deps.length≤20∧p.changes.length≤20∧∀c∈p.changes,c.lines.length≤40∧c.over.length≤40:=by
 unfold eB at hg
 simp only [Bool.or_eq_false_iff,decide_eq_false_iff_not,Nat.not_lt,List.any_eq_false] at hg
 obtain ⟨h1,⟨_,h2⟩,h3⟩:=hg
 have h4:∀c∈p.changes,c.lines.length≤40∧c.over.length≤40:=by
  intro c hc
  have:=h1 c hc
  simp only [tc,pg,Bool.or_eq_true,decide_eq_true_eq,not_or,Nat.not_lt] at this
  exact ⟨this.1.1,this.2⟩
 have ha:=hs.author
 have hm:=hs.message
 have hb:=oQ p.changes [] h4 (by simp)
 have hL:aT p=[]∨aT p=(j6 p.changes []).2:=by unfold aT;split<;>simp
 have hok:∀c∈p.changes,c.Ok:=fun c hc=>⟨by have:=(hs.changes c hc).name;omega,by have:=(hs.changes c hc).data;omega,fun x hx=>by have:=(hs.changes c hc).lines x hx;omega,by have:=(h4 c hc).1;omega,by have:=(h4 c hc).2;omega⟩
 refine ⟨⟨⟨by omega,by omega,by omega,by omega,hok⟩,⟨by omega,by omega,fun c hc=>⟨by have:=(h4 c hc).1;omega,by have:=(h4 c hc).2;omega⟩,BK p h2 h3 h4⟩,by omega,by omega,fun c hc=>by have:=(h4 c hc).2;omega,?_,?_⟩,h2,h3,h4⟩
 ·rcases hL with h | h<;>rw [h]
  ·simp
  ·have:=hb.1;simp at this;omega
 ·intro x hx
  rcases hL with h | h<;>rw [h] at hx
  ·simp at hx
  ·have:=hb.2 x hx;omega
structure mW (s:List ag):Prop where
 n:s.length≤8
 p:∀x∈s,x.patch.Fit
theorem wK {s:List ag} (hs:oj s) (hg:kf s=false):mW s:=by
 unfold kf at hg
 simp only [Bool.or_eq_false_iff,decide_eq_false_iff_not,Nat.not_lt,List.any_eq_false] at hg
 obtain ⟨h1,h2,_⟩:=hg
 refine ⟨h2,fun x hx=>(xA (hs.p x hx) ?_).1⟩
 have:=h1 x (by rw [List.take_of_length_le (by omega)];exact hx)
 simpa using this
def kU:aA:=⟨[],[],0,[],.nil,[],.nil⟩
theorem Fh:kU.Fit:=by
 refine (xA ⟨by simp [kU],by simp [kU],by simp [kU],by simp [kU],by simp [kU]⟩ ?_).1
 simp [eB,kU,HS]
end Go.Proofs.Ev
namespace Go.Proofs.Ev
open Go.Proofs
variable {C:bD}
theorem C6 (S:aV C) (l:List ag) (k:SK) (hl:l.length≤2^20):b8 Tryz.prog C 37 [] [am k (l.map ag.cells)] (am (gV l) ((l.map fun x=>x.id).map ar.cells)):=by
 refine aw (S.pure7 _ (by decide)) fun H=>aj Tryz.func37 rfl (S.prim _ (by decide)) (by simp) (by kernel_rfl) ?_
 unfold Tryz.f37
 simp [aE,ah,aq]
 refine ay l.length (fun i s H'=>∃J,H'=H++J∧s 0=am k (l.map ag.cells)∧s 4=.int .i64 i∧aQ H.length 32 J (s 3) (((l.take i).map fun x=>x.id).map ar.cells)∧(i=0→s 3=.lst [] true)∧(s 3=.lst [] true∨∃b g l,s 3=.sl b g 32 0 l)) ?_ ?_
 ·exact ⟨[],by simp,rfl,rfl,.lst [],fun _=>rfl,.inl rfl⟩
 rintro i s H' ⟨J,rfl,e0,e4,hg,hz,hz2⟩ hi
 by_cases h:i<l.length
 ·obtain ⟨v',J',ha,hg',hs'⟩:=sY (H0:=H) (Z:=H) rfl (Nat.le_refl _) (x:=.lst [l[i].id.cells] true) (ys:=[l[i].id]) hg rfl (by simp;omega)
  have et:(l.take (i+1)).map (fun x=>x.id)=(l.take i).map (fun x=>x.id)++[l[i].id]:=by
   rw [List.take_add_one,List.getElem?_eq_getElem h,List.map_append];rfl
  rw [←et] at hg'
  simp [e0,e4,h,ah,aq,ha,show aJ.length=32 from rfl,au h (by omega)]
  exact ⟨by simpa using hg',.inr (hs' (.inl (by simp)))⟩
 ·have h':i=l.length:=by omega
  subst h'
  rw [List.take_length] at hg
  simp [e0,e4]
  have hf:=hg.freezeE (Z:=H) (L:=[]) (k:=H.length) (d:=2) rfl (Nat.le_refl _) (aH ar.closed _) (fun h=>hz (by simpa using h)) hz2
  rw [List.append_nil] at hf
  rw [hf]
  have hk:gV ((l.map fun x=>x.id).map ar.cells)=gV l:=by unfold gV;cases l<;>rfl
  rw [hk,List.map_map]
def bY (s:List ag) (d:List Nat):aA:=match s.find? (fun x=>decide (x.id.d=d)) with | some x=>x.patch | none=>kU
def fU (s:List ag) (d:List Nat):Bool:=(s.find? fun x=>decide (x.id.d=d)).isSome
@[simp] theorem Lh:[AV.str [],.str [],.int .i64 0,.nils,.nils]=kU.cells:=rfl
theorem Gu {s:List ag} (hs:mW s) (d:List Nat):(bY s d).Fit:=by
 unfold bY
 split
 ·rename_i x hx;exact hs.p x (List.mem_of_find?_eq_some hx)
 ·exact Fh
set_option maxHeartbeats 1000000 in
theorem nY (S:aV C) (l:List ag) (k:SK) (d:ar) (hl:l.length≤2^20):b8 Tryz.prog C 32 [] [am k (l.map ag.cells),.agg d.cells] (.tup [.agg (bY l d.d).cells,.bool (fU l d.d)]):=by
 refine aw (S.pure7 _ (by decide)) fun H=>aj Tryz.func32 rfl (S.prim _ (by decide)) (by simp) (by kernel_rfl) ?_
 unfold Tryz.f32
 have e:=jL S.toaz
 simp [aE]
 refine ay l.length (fun i s H'=>H'=H++[.rows 32 0 [d.cells],.rows 5 0 [kU.cells]]∧s 0=am k (l.map ag.cells)∧s 3=.ptr H.length 0 32 0 0∧s 4=.ptr (H.length+1) 0 5 0 0∧s 6=.int .i64 i∧l.find? (fun x=>decide (x.id.d=d.d))=(l.drop i).find? (fun x=>decide (x.id.d=d.d))) ?_ ?_
 ·exact ⟨rfl,rfl,rfl,rfl,rfl,rfl⟩
 rintro i s H' ⟨rfl,e0,e3,e4,e6,hc⟩ hi
 by_cases h:i<l.length
 ·rw [List.drop_eq_getElem_cons h,List.find?_cons] at hc
  by_cases hd:l[i].id.d=d.d
  ·rw [show decide (l[i].id.d=d.d)=true by simpa using hd] at hc
   have h1:bY l d.d=l[i].patch:=by unfold bY;rw [hc]
   have h2:fU l d.d=true:=by unfold fU;rw [hc];rfl
   rw [h1,h2]
   simp [e0,e3,e4,e6,h,e,hd,ao]
   exact bb (ak (v:=.agg _) (aA.closed _)) (by simp)
  ·rw [show decide (l[i].id.d=d.d)=false by simpa using hd] at hc
   simp [e0,e3,e4,e6,h,e,hd,au h (by omega)]
   exact hc
 ·have h':i=l.length:=by omega
  subst h'
  rw [List.drop_length] at hc
  have h1:bY l d.d=kU:=by unfold bY;rw [hc];rfl
  have h2:fU l d.d=false:=by unfold fU;rw [hc];rfl
  rw [h1,h2]
  simp [e0,e3,e4,e6,ao,aD]
  exact bb (ak (v:=.agg _) (aA.closed _)) (by simp)
end Go.Proofs.Ev
namespace Go.Proofs.Ev
open Go.Proofs
variable {C:bD}
def oe (s:List ag) (out:List ar) (x:ag) (k:Int):Bool :=
 !dg out x.id.d&&gb out (cP x.patch).2&&(decide (k<0)||match s[k.toNat]? with | some y=>decide (bQ x.id.d y.id.d<0) | none=>false)
def gv (s:List ag) (out:List ar):Nat→Int
 | 0=>-1
 | i+1=>match s[i]? with | some x=>if oe s out x (gv s out i) then (i:Int) else gv s out i | none=>gv s out i
theorem mu (s:List ag) (out:List ar):∀i,-1≤gv s out i∧gv s out i<i∧(0≤gv s out i→∃x,s[(gv s out i).toNat]?=some x∧dg out x.id.d=false∧gb out (cP x.patch).2=true)
 | 0=>by simp [gv]
 | i+1=>by
  have ih:=mu s out i
  rw [gv]
  cases hx:s[i]? with
  | none=>simp only;exact ⟨ih.1,by omega,ih.2.2⟩
  | some x =>
   simp only
   by_cases hc:oe s out x (gv s out i)=true
   ·rw [if_pos hc]
    simp only [oe,Bool.and_eq_true,Bool.not_eq_true'] at hc
    exact ⟨by omega,by omega,fun _=>⟨x,by simpa using hx,hc.1.1,hc.1.2⟩⟩
   ·rw [if_neg hc];exact ⟨ih.1,by omega,ih.2.2⟩
def d9 (s:List ag):Nat→List ar→List ar
 | 0,out=>out
 | n+1,out=>match s[(gv s out s.length).toNat]? with | some x=>if gv s out s.length<0 then out else d9 s n (out++[x.id]) | none=>out
inductive iE (s:List ag):List ar→Prop
 | nil:iE s []
 | snoc {out:List ar} {x:ag} (h:iE s out) (hx:x∈s) (h1:dg out x.id.d=false) (h2:gb out (cP x.patch).2=true):iE s (out++[x.id])
theorem qn (s:List ag):∀n out,iE s out→iE s (d9 s n out)
 | 0,out,h=>h
 | n+1,out,h=>by
  rw [d9]
  cases hx:s[(gv s out s.length).toNat]? with
  | none=>exact h
  | some x =>
   simp only
   split
   ·exact h
   ·rename_i hp
    obtain ⟨y,hy,h1,h2⟩:=(mu s out s.length).2.2 (by omega)
    rw [hx] at hy;cases hy
    exact qn s n _ (.snoc h (List.mem_of_getElem? hx) h1 h2)
theorem wo {p:aA} (hp:p.Fit):(cP p).2.length≤2^40:=by
 unfold cP
 split
 ·simp
 ·have h1:=lz oc p.deps (.exact,[])
  have h2:=tz p.changes hp.over (p.deps.foldl fq (.exact,[]))
  have:=hp.deps
  have:=hp.changes
  simp at h1;omega
set_option maxRecDepth 100000 in
set_option maxHeartbeats 4000000 in
theorem jy (S:aV C) (l:List ag) (k:SK) (hl:mW l):b8 Tryz.prog C 25 [] [am k (l.map ag.cells)] (am (gV (d9 l l.length [])) ((d9 l l.length []).map ar.cells)):=by
 refine aw (S.pure7 _ (by decide)) fun H=>aj Tryz.func25 rfl (S.prim _ (by decide)) (by simp) (by kernel_rfl) ?_
 unfold Tryz.f25
 have hn:=hl.n
 simp [aE,ah,aq]
 refine ay l.length (fun i s H'=>∃J out,H'=H++J∧s 0=am k (l.map ag.cells)∧out.length=i∧aQ H.length 32 J (s 3) (out.map ar.cells)∧(out=[]→s 3=.lst [] true)∧(s 3=.lst [] true∨∃b g l,s 3=.sl b g 32 0 l)∧d9 l l.length []=d9 l (l.length-i) out) ?_ ?_
 ·exact ⟨[],[],by simp,rfl,rfl,.lst [],fun _=>rfl,.inl rfl,rfl⟩
 rintro i s H' ⟨J,out,rfl,e0,ho,hg,hz,hz2,hord⟩ hi
 have hlen:=fun HH=>hg.len (P:=Tryz.prog) (t:=34) (e:=25) (H:=HH) (by simp)
 rw [List.length_map,ho] at hlen
 have hf:=fun k d hk=>hg.freezeE (Z:=H) (L:=[]) (k:=k) (d:=d) rfl hk (aH ar.closed _) (fun h=>hz (by simpa using h)) hz2
 simp only [List.append_nil] at hf
 have hk:gV (out.map ar.cells)=gV out:=by unfold gV;cases out<;>rfl
 rw [hk] at hf
 by_cases h:i<l.length
 ·have hnn:l.length-i=(l.length-(i+1))+1:=by omega
  rw [hnn,d9] at hord
  have cmp:∀a b:ar,∀base H K,aF Tryz.prog C base (.fn 36 []) [.agg a.cells,.agg b.cells] H K=K (.int .i64 (bQ a.d b.d)) H:=fun a b=>(nJ (S.prim _ (by decide)) (S.pure _ (by decide)) a.d b.d a.h b.h).eq
  have f0:=hf 0 5 (Nat.zero_le _)
  have cHas:∀d:ar,∀base K,aF Tryz.prog C base (.fn 60 []) [s 3,.agg d.cells] (H++J) K=K (.bool (dg out d.d)) (H++J):=fun d base K=>(yi S.tocW out (gV out) d (by omega)).eq base (H++J) (by rw [List.append_nil,List.mapM_cons,f0,List.mapM_cons,List.mapM_nil,ak (v:=.agg d.cells) (ar.closed d)];rfl) K
  have cAll:∀x:aA,x.Fit→∀base K,aF Tryz.prog C base (.fn 38 []) [s 3,am (cP x).1 ((cP x).2.map ar.cells)] (H++J) K=K (.bool (gb out (cP x).2)) (H++J):=fun x hx base K=>(C3 S.tocW out (cP x).2 (gV out) (cP x).1 (by omega) (wo hx)).eq base (H++J) (by rw [List.append_nil,List.mapM_cons,f0,List.mapM_cons,List.mapM_nil,ak (bI (aH ar.closed _))];rfl) K
  generalize hV:s 3=V at *
  simp [e0,hlen,hV,h]
  refine ay l.length (fun j s' H'=>H'=H++J∧s' 0=am k (l.map ag.cells)∧s' 3=V∧s' 5=.int .i64 j∧s' 4=.int .i64 (gv l out j)) ?_ ?_
  ·exact ⟨rfl,e0,hV,rfl,rfl⟩
  rintro j s' H' ⟨rfl,e0,e3,e5,e4⟩ hj
  by_cases hjl:j<l.length
  ·have hpf:=hl.p _ (List.getElem_mem hjl)
   have cN:=(wF S.tocW l[j].patch hpf.ok hpf.ok2 hpf.deps hpf.changes hpf.over).eq
   have cA:=cAll _ hpf
   have hps:=mu l out j
   have hnext:gv l out (j+1)=if oe l out l[j] (gv l out j) then (j:Int) else gv l out j:=by rw [gv,List.getElem?_eq_getElem hjl]
   generalize hP:gv l out j=P at *
   cases hh:dg out l[j].id.d with
   | true =>
    have hcc:oe l out l[j] P=false:=by unfold oe;rw [hh];rfl
    rw [hcc] at hnext
    simp [e0,e3,e5,e4,hjl,an,cHas,hh,au hjl (by omega)]
    simpa using hnext.symm
   | false =>
    cases ha:gb out (cP l[j].patch).2 with
    | false =>
     have hcc:oe l out l[j] P=false:=by unfold oe;rw [hh,ha];rfl
     rw [hcc] at hnext
     simp [e0,e3,e5,e4,hjl,an,cHas,hh,cN,cA,ha,au hjl (by omega)]
     simpa using hnext.symm
    | true =>
     by_cases hP0:P<0
     ·have hcc:oe l out l[j] P=true:=by unfold oe;rw [hh,ha];simp [hP0]
      rw [hcc] at hnext
      simp [e0,e3,e5,e4,hjl,an,cHas,hh,cN,cA,ha,hP0,au hjl (by omega)]
      simpa using hnext.symm
     ·obtain ⟨q,hq⟩:∃q:Nat,P=(q:Int):=⟨P.toNat,by omega⟩
      subst hq
      have hql:q<l.length:=by omega
      have hcc:oe l out l[j] (q:Int)=decide (bQ l[j].id.d l[q].id.d<0):=by unfold oe;rw [hh,ha];simp [hql,show ¬(q:Int)<0 by omega]
      rw [hcc] at hnext
      by_cases hcm:bQ l[j].id.d l[q].id.d<0
      ·simp [hcm] at hnext
       simp [e0,e3,e5,e4,hjl,hql,an,cHas,hh,cN,cA,ha,hP0,cmp,hcm,au hjl (by omega)]
       exact hnext.symm
      ·simp [hcm] at hnext
       simp [e0,e3,e5,e4,hjl,hql,an,cHas,hh,cN,cA,ha,hP0,cmp,hcm,au hjl (by omega)]
       exact hnext.symm
  ·have hj':j=l.length:=by omega
   subst hj'
   have hps:=mu l out l.length
   generalize hP:gv l out l.length=P at *
   by_cases hP0:P<0
   ·have hres:d9 l l.length []=out:=by
     rw [hord]
     cases l[P.toNat]? with
     | none=>rfl
     | some x=>simp [hP0]
    rw [hres]
    simp [e0,e3,e5,e4,hP0]
    exact hf H.length 2 (Nat.le_refl _)
   ·obtain ⟨q,hq⟩:∃q:Nat,P=(q:Int):=⟨P.toNat,by omega⟩
    subst hq
    have hql:q<l.length:=by omega
    rw [Int.toNat_natCast,List.getElem?_eq_getElem hql] at hord
    simp [hP0] at hord
    obtain ⟨v',J',ha,hg',hs'⟩:=sY (H0:=H) (Z:=H) rfl (Nat.le_refl _) (x:=.lst [l[q].id.cells] true) (ys:=[l[q].id]) hg rfl (by simp;omega)
    simp [e0,e3,e5,e4,hP0,hql,ah,aq,ha,show aJ.length=32 from rfl]
    exact ⟨h,out++[l[q].id],by simp [ho],by simpa using hg',fun h=>by simp at h,.inr (hs' (.inl (by simp))),hord⟩
 ·have h':i=l.length:=by omega
  have hres:d9 l l.length []=out:=by rw [hord,h',Nat.sub_self];rfl
  rw [hres]
  rw [h'] at hlen
  simp [e0,hlen]
  exact hf H.length 2 (Nat.le_refl _)
end Go.Proofs.Ev
namespace Go.Proofs.Ev
open Go.Proofs
variable {C:bD}
def dE (p:aA):List aG:=if bt p=0 then (aT p).map (Cx ⟨pJ p,l4 p,lZ p⟩) else []
def nQ (p:aA):SK:=if bt p=0 then gV (aT p) else .exact
theorem mz (S:aV C) (p:aA) (hp:p.Fit):b8 Tryz.prog C 33 [] [.agg p.cells] (.tup [am (nQ p) ((dE p).map aG.cells),.int .i64 (bt p)]):=zR S p hp.ok hp.ok2 hp.atoms hp.atomOver
def lm (s:List ag) (x:aC):aG:=if x.n<0∨((dE (bY s x.d)).length:Int)≤x.n then bV else (dE (bY s x.d)).getD x.n.toNat bV
def m3 (s:List ag) (x:aC):Bool:=!(decide (x.n<0)||decide (((dE (bY s x.d)).length:Int)≤x.n))
set_option maxHeartbeats 1000000 in
theorem uD (S:aV C) (l:List ag) (k:SK) (x:aC) (hl:mW l):b8 Tryz.prog C 127 [] [am k (l.map ag.cells),.agg x.cells] (.tup [.agg (lm l x).cells,.bool (m3 l x)]):=by
 refine aw (S.pure8 _ (by decide)) fun H=>aj Tryz.func127 rfl (S.prim _ (by decide)) (by simp) (by kernel_rfl) ?_
 unfold Tryz.f127
 have g:∀base H K,aF Tryz.prog C base (.fn 32 []) [am k (l.map ag.cells),.agg (Ev.dig x.d)] H K=K (.tup [.agg (bY l x.d).cells,.bool (fU l x.d)]) H:=(nY S l k x.dv (by have:=hl.n;omega)).eq
 have a:=(mz S _ (Gu hl x.d)).eq
 generalize hL:dE (bY l x.d)=L at *
 have hQ:lm l x=if x.n<0∨(L.length:Int)≤x.n then bV else L.getD x.n.toNat bV:=by unfold lm;rw [hL]
 have hB:m3 l x = !(decide (x.n<0)||decide ((L.length:Int)≤x.n)):=by unfold m3;rw [hL]
 rw [hQ,hB]
 by_cases h1:x.n<0
 ·simp [aE,g,a,ao,an,h1,aD]
  exact bb (ak (v:=.agg _) (aG.closed _)) (by simp)
 ·by_cases h2:(L.length:Int)≤x.n
  ·simp [aE,g,a,ao,an,h1,h2,aD]
   exact bb (ak (v:=.agg _) (aG.closed _)) (by simp)
  ·have hlt:x.n.toNat<L.length:=by omega
   have hget:L.getD x.n.toNat bV=L[x.n.toNat]:=by rw [List.getD_eq_getElem?_getD,List.getElem?_eq_getElem hlt];rfl
   rw [if_neg (by omega),hget]
   simp [aE,g,a,ao,an,h1,h2,hlt,show 0≤x.n by omega,show x.n<L.length by omega]
   exact bb (ak (v:=.agg _) (aG.closed _)) (by simp)
theorem wG (S:aV C) (x:aC):b8 Tryz.prog C 126 [] [.agg x.cells] (.bool (!bz x.d)):=by
 refine aw (S.pure8 _ (by decide)) fun H=>aj Tryz.func126 rfl (S.prim _ (by decide)) (by simp) (by kernel_rfl) ?_
 unfold Tryz.f126
 have e:=jv (oW S.toaz x.d aJ x.h (by decide))
 simp [aE,e,aD,bz]
theorem vt (S:aV C) (x:aG):b8 Tryz.prog C 129 [] [.agg x.cells] (.bool (x.kind==1&&x.type==4)):=by
 refine aw (S.pure8 _ (by decide)) fun H=>aj Tryz.func129 rfl (S.prim _ (by decide)) (by simp) (by kernel_rfl) ?_
 unfold Tryz.f129
 simp +contextual [-Bool.not_and,-Bool.not_or,aE,an]
theorem qu (S:aV C) (x:aC) (d:ar):b8 Tryz.prog C 132 [] [.agg x.cells,.agg d.cells] (.agg (bi x d).cells):=by
 refine aw (S.pure8 _ (by decide)) fun H=>aj Tryz.func132 rfl (S.prim _ (by decide)) (by simp) (by kernel_rfl) ?_
 unfold Tryz.f132
 have e:=oW S.toaz x.d aJ x.h (by decide)
 have hd:(aC.mk d.d x.n d.h d.b).cells=d.cells++[.int .i64 x.n]:=rfl
 by_cases hn:0≤x.n
 ·by_cases hz:x.d=aJ
  ·have hw:bi x d=⟨d.d,x.n,d.h,d.b⟩:=by unfold bi;rw [if_pos (by simp [bz,hz,hn])]
   rw [hw]
   have e':=e.trans (congrArg (fun b=>some (AV.bool b)) (decide_eq_true hz))
   simp [aE,e',hn,an,aD,ao,hd]
   rw [←hd]
   generalize aC.mk d.d x.n d.h d.b=y
   first
    | exact ak (v:=.agg y.cells) (aC.closed y)
    | exact ⟨fun v hv=>List.all_eq_true.1 y.leafs v hv,ak (v:=.agg y.cells) (aC.closed y)⟩
    | (simp;exact ⟨fun v hv=>List.all_eq_true.1 y.leafs v hv,ak (v:=.agg y.cells) (aC.closed y)⟩)
    | trace_state
  ·have hw:bi x d=x:=by unfold bi;rw [if_neg (by simp [bz,hz])]
   rw [hw]
   simp [aE,e,hn,hz,an,aD,ao]
   exact ak (v:=.agg x.cells) (aC.closed x)
 ·have hw:bi x d=x:=by unfold bi;rw [if_neg (by simp [hn])]
  rw [hw]
  simp [aE,e,hn,an,aD,ao]
  exact ak (v:=.agg x.cells) (aC.closed x)
def vk (s:List ag) (x file:aC) (d:ar):Int:=if bz x.d||aB x file then 0 else if m3 s x=false then 7 else if np (bi file d) (lm s x)=false then 8 else 0
set_option maxHeartbeats 1000000 in
theorem JM (S:aV C) (l:List ag) (k:SK) (x file:aC) (d:ar) (hl:mW l):b8 Tryz.prog C 130 [] [am k (l.map ag.cells),.agg x.cells,.agg file.cells,.agg d.cells] (.int .i64 (vk l x file d)):=by
 refine aw (S.pure8 _ (by decide)) fun H=>aj Tryz.func130 rfl (S.prim _ (by decide)) (by simp) (by kernel_rfl) ?_
 unfold Tryz.f130
 have e:=gZ S.toaz
 have c1:=(wG S x).eq
 have c2:=(uD S l k x hl).eq
 have c3:=(qu S file d).eq
 have c4:=fun f a=>(sb S.toaz f a).eq
 unfold vk
 generalize lm l x=Q at *
 generalize m3 l x=B at *
 generalize bi file d=W at *
 cases hz:bz x.d with
 | true=>simp [aE,c1,hz,an]
 | false =>
  cases hs:aB x file with
  | true=>simp [aE,c1,hz,an,e,hs]
  | false =>
   cases B with
   | false=>simp [aE,c1,hz,an,e,hs,c2,ao]
   | true =>
    cases hf:np W Q with
    | false=>simp [aE,c1,hz,an,e,hs,c2,c3,c4,hf,ao]
    | true=>simp [aE,c1,hz,an,e,hs,c2,c3,c4,hf,ao]
def rW (s:List ag) (c:aW) (d:ar):List aC→Int
 | []=>0
 | x::l=>if bz x.d then rW s c d l else if m3 s x=false then 7 else if gD c.kind (bi c.file d) (lm s x)=false then 8 else rW s c d l
def tw (s:List ag) (c:aW):Int:=if bz c.file.d then 0 else if m3 s c.file=false then 7 else if jQ c.kind (lm s c.file)=false then 8 else 0
def tx (s:List ag) (c:aW):Int:=if bz c.parent.d then 0 else if m3 s c.parent=false then 7 else if ((lm s c.parent).kind==1&&(lm s c.parent).type==4)=false then 8 else 0
def ew (s:List ag) (c:aW) (d:ar):Int:=if tw s c≠0 then tw s c else if tx s c≠0 then tx s c else if vk s c.after c.file d≠0 then vk s c.after c.file d else if vk s c.before c.file d≠0 then vk s c.before c.file d else rW s c d c.over
set_option maxRecDepth 100000 in
set_option maxHeartbeats 4000000 in
theorem ye (S:aV C) (l:List ag) (k:SK) (c:aW) (d:ar) (hl:mW l) (hc:c.over.length≤400):b8 Tryz.prog C 76 [] [am k (l.map ag.cells),.agg c.cells,.agg d.cells] (.int .i64 (ew l c d)):=by
 refine aw (S.pure8 _ (by decide)) fun H=>aj Tryz.func76 rfl (S.prim _ (by decide)) (by simp) (by kernel_rfl) ?_
 unfold Tryz.f76
 have c1:=fun x=>(wG S x).eq
 have c2:=fun x=>(uD S l k x hl).eq
 have c3:=fun x=>(qu S x d).eq
 have c4:=fun kd a=>(qv S.toaz kd a).eq
 have c5:=fun a=>(vt S a).eq
 have c6:=fun x=>(JM S l k x c.file d hl).eq
 have c7:=fun kd f a=>(qw S.toaz kd f a).eq
 refine cut (fun s H'=>s 0=am k (l.map ag.cells)∧s 4=.ptr H.length 0 139 0 0∧s 5=.ptr (H.length+1) 0 32 0 0∧∃J,H'=H++.rows 139 0 [c.cells]::.rows 32 0 [d.cells]::J) ?_ ?_
 ·simp [aE]
 rintro s H' ⟨e0,e4,e5,J,rfl⟩
 refine cut (fun s H'=>tw l c=0∧s 0=am k (l.map ag.cells)∧s 4=.ptr H.length 0 139 0 0∧s 5=.ptr (H.length+1) 0 32 0 0∧∃J,H'=H++.rows 139 0 [c.cells]::.rows 32 0 [d.cells]::J) ?_ ?_
 ·cases hz:bz c.file.d with
  | true =>
   have hE:tw l c=0:=by unfold tw;rw [if_pos hz]
   simp [e0,e4,e5,c1,hz,hE]
  | false =>
   cases hb:m3 l c.file with
   | false =>
    have hE:tw l c=7:=by unfold tw;simp [hz,hb]
    have hE2:ew l c d=7:=by unfold ew;simp [hE]
    simp [e0,e4,e5,c1,hz,c2,hb,ao,hE2]
   | true =>
    cases hf:jQ c.kind (lm l c.file) with
    | false =>
     have hE:tw l c=8:=by unfold tw;simp [hz,hb,hf]
     have hE2:ew l c d=8:=by unfold ew;simp [hE]
     simp [e0,e4,e5,c1,hz,c2,hb,ao,c4,hf,hE2]
    | true =>
     have hE:tw l c=0:=by unfold tw;simp [hz,hb,hf]
     simp [e0,e4,e5,c1,hz,c2,hb,ao,c4,hf,hE]
 clear e0 e4 e5
 rintro s H' ⟨h1,e0,e4,e5,J,rfl⟩
 refine cut (fun s H'=>tx l c=0∧s 0=am k (l.map ag.cells)∧s 4=.ptr H.length 0 139 0 0∧s 5=.ptr (H.length+1) 0 32 0 0∧∃J,H'=H++.rows 139 0 [c.cells]::.rows 32 0 [d.cells]::J) ?_ ?_
 ·cases hz:bz c.parent.d with
  | true =>
   have hE:tx l c=0:=by unfold tx;rw [if_pos hz]
   simp [e0,e4,e5,c1,hz,hE]
  | false =>
   cases hb:m3 l c.parent with
   | false =>
    have hE:tx l c=7:=by unfold tx;simp [hz,hb]
    have hE2:ew l c d=7:=by unfold ew;simp [hE,h1]
    simp [e0,e4,e5,c1,hz,c2,hb,ao,hE2]
   | true =>
    cases hf:((lm l c.parent).kind==1&&(lm l c.parent).type==4) with
    | false =>
     have hE:tx l c=8:=by unfold tx;rw [if_neg (by simp [hz]),if_neg (by simp [hb]),if_pos hf]
     have hE2:ew l c d=8:=by unfold ew;simp [hE,h1]
     simp [e0,e4,e5,c1,hz,c2,hb,ao,c5,hf,hE2]
    | true =>
     have hE:tx l c=0:=by unfold tx;rw [if_neg (by simp [hz]),if_neg (by simp [hb]),if_neg (by simp [hf])]
     simp [e0,e4,e5,c1,hz,c2,hb,ao,c5,hf,hE]
 clear e0 e4 e5
 rintro s H' ⟨h2,e0,e4,e5,J,rfl⟩
 by_cases h3:vk l c.after c.file d=0
 ·by_cases h4:vk l c.before c.file d=0
  ·have hE:ew l c d=rW l c d c.over:=by unfold ew;simp [h1,h2,h3,h4]
   rw [hE]
   simp [e0,e4,e5,c6,h3,h4]
   refine ay c.over.length (fun i s H'=>s 0=am k (l.map ag.cells)∧s 4=.ptr H.length 0 139 0 0∧s 5=.ptr (H.length+1) 0 32 0 0∧(∃J,H'=H++.rows 139 0 [c.cells]::.rows 32 0 [d.cells]::J)∧s 13=.int .i64 i∧rW l c d c.over=rW l c d (c.over.drop i)) ?_ ?_
   ·exact ⟨e0,e4,e5,⟨J,rfl⟩,rfl,rfl⟩
   clear e0 e4 e5
   rintro i s H' ⟨e0,e4,e5,⟨J,rfl⟩,e13,hv⟩ hi
   by_cases h:i<c.over.length
   ·rw [List.drop_eq_getElem_cons h,rW] at hv
    cases hz:bz c.over[i].d with
    | true =>
     rw [if_pos hz] at hv
     simp [e0,e4,e5,e13,h,c1,hz,au h (by omega)]
     exact hv
    | false =>
     rw [if_neg (by simp [hz])] at hv
     cases hb:m3 l c.over[i] with
     | false =>
      rw [if_pos hb] at hv
      simp [e0,e4,e5,e13,h,c1,hz,c2,hb,ao,hv]
     | true =>
      rw [if_neg (by simp [hb])] at hv
      cases hf:gD c.kind (bi c.file d) (lm l c.over[i]) with
      | false =>
       rw [if_pos hf] at hv
       simp [e0,e4,e5,e13,h,c1,hz,c2,hb,ao,c3,c7,hf,hv]
      | true =>
       rw [if_neg (by simp [hf])] at hv
       simp [e0,e4,e5,e13,h,c1,hz,c2,hb,ao,c3,c7,hf,au h (by omega)]
       exact hv
   ·have h':i=c.over.length:=by omega
    subst h'
    rw [List.drop_length,rW] at hv
    simp [e0,e4,e5,e13,hv]
  ·have hE:ew l c d=vk l c.before c.file d:=by unfold ew;simp [h1,h2,h3,h4]
   rw [hE]
   simp [e0,e4,e5,c6,h3,h4]
 ·have hE:ew l c d=vk l c.after c.file d:=by unfold ew;simp [h1,h2,h3]
  rw [hE]
  simp [e0,e4,e5,c6,h3]
def qr (s:List ag) (d:ar):List aW→Int
 | []=>0
 | c::l=>if ew s c d≠0 then ew s c d else qr s d l
theorem Ce (S:aV C) (l:List ag) (k:SK) (p:aA) (d:ar) (hl:mW l) (hp:p.Fit):b8 Tryz.prog C 40 [] [am k (l.map ag.cells),.agg p.cells,.agg d.cells] (.int .i64 (qr l d p.changes)):=by
 refine aw (S.pure8 _ (by decide)) fun H=>aj Tryz.func40 rfl (S.prim _ (by decide)) (by simp) (by kernel_rfl) ?_
 unfold Tryz.f40
 have hcn:=hp.changes
 simp [aE]
 refine ay p.changes.length (fun i s H'=>s 0=am k (l.map ag.cells)∧s 4=.ptr H.length 0 5 0 0∧s 5=.ptr (H.length+1) 0 32 0 0∧H'=H++[.rows 5 0 [p.cells],.rows 32 0 [d.cells]]∧s 7=.int .i64 i∧qr l d p.changes=qr l d (p.changes.drop i)) ?_ ?_
 ·exact ⟨rfl,rfl,rfl,rfl,rfl,rfl⟩
 rintro i s H' ⟨e0,e4,e5,rfl,e7,hv⟩ hi
 by_cases h:i<p.changes.length
 ·rw [List.drop_eq_getElem_cons h,qr] at hv
  have c1:=(ye S l k p.changes[i] d hl (hp.over _ (List.getElem_mem h))).eq
  by_cases h0:ew l p.changes[i] d=0
  ·rw [if_neg (by simpa using h0)] at hv
   simp [e0,e4,e5,e7,h,c1,h0,au h (by omega)]
   exact hv
  ·rw [if_pos h0] at hv
   simp [e0,e4,e5,e7,h,c1,h0,hv]
 ·have h':i=p.changes.length:=by omega
  subst h'
  rw [List.drop_length,qr] at hv
  simp [e0,e4,e5,e7,hv]
def sw (p:Option ar):List ag→Int
 | []=>0
 | x::l=>if bt x.patch≠0 then bt x.patch else if pJ x.patch≠x.id.d then 13 else if (match p with | none=>false | some y=>decide (0≤bQ y.d (pJ x.patch)))=true then 9 else sw (some x.id) l
theorem qQ (p:Option ar) (x:ag) (l:List ag):sw p (x::l)=if bt x.patch≠0 then bt x.patch else if pJ x.patch≠x.id.d then 13 else if (match p with | none=>false | some y=>decide (0≤bQ y.d (pJ x.patch)))=true then 9 else sw (some x.id) l:=by cases p<;>rfl
def AS (ids:List ar):List ag→Int
 | []=>0
 | x::l=>if gb ids (cP x.patch).2=false then 19 else AS ids l
def AT (s:List ag):List ag→Int
 | []=>0
 | x::l=>if qr s x.id x.patch.changes≠0 then qr s x.id x.patch.changes else AT s l
def p4 (s:List ag):Int:=if sw none s≠0 then sw none s else if AS (s.map fun x=>x.id) s≠0 then AS (s.map fun x=>x.id) s else if (d9 s s.length []).length<s.length then 20 else AT s s
def rX (l:List ag):Nat→Option ar
 | 0=>none
 | k+1=>(l[k]?).map fun x=>x.id
set_option maxRecDepth 100000 in
set_option maxHeartbeats 4000000 in
theorem zU (S:aV C) (l:List ag) (k:SK) (hl:mW l):b8 Tryz.prog C 16 [] [am k (l.map ag.cells)] (.int .i64 (p4 l)):=by
 refine aw (S.pure8 _ (by decide)) fun H=>aj Tryz.func16 rfl (S.prim _ (by decide)) (by simp) (by kernel_rfl) ?_
 unfold Tryz.f16
 have hn:=hl.n
 have cmp:∀a b:ar,∀base H K,aF Tryz.prog C base (.fn 36 []) [.agg a.cells,.agg b.cells] H K=K (.int .i64 (bQ a.d b.d)) H:=fun a b=>(nJ (S.prim _ (by decide)) (S.pure _ (by decide)) a.d b.d a.h b.h).eq
 have eqd:=fun a b=>jv (jL S.toaz a b)
 have cids:=(C6 S l k (by omega)).eq
 have cord:=(jy S l k hl).eq
 simp [aE,show ¬(400:Int)<l.length by omega]
 refine ay l.length (fun i s H'=>s 0=am k (l.map ag.cells)∧(∃J,H'=H++J)∧s 3=.int .i64 i∧sw none l=sw (rX l i) (l.drop i)) ?_ ?_
 ·exact ⟨rfl,⟨[],by simp⟩,rfl,rfl⟩
 rintro i s H' ⟨e0,⟨J,rfl⟩,e3,hv⟩ hi
 by_cases h:i<l.length
 ·have hpf:=hl.p _ (List.getElem_mem h)
  have cid:∀base H K,aF Tryz.prog C base (.fn 35 []) [.agg l[i].patch.cells] H K=K (.tup [.agg (ar.mk (pJ l[i].patch) (l4 _) (lZ _)).cells,.int .i64 (bt l[i].patch)]) H:=(zZ S.tod3 l[i].patch hpf.ok hpf.ok2).eq
  rw [List.drop_eq_getElem_cons h,qQ] at hv
  obtain ⟨D,hD⟩:∃D,D=ar.mk (pJ l[i].patch) (l4 _) (lZ _):=⟨_,rfl⟩
  have hDd:pJ l[i].patch=D.d:=by rw [hD]
  rw [←hD] at cid
  rw [hDd] at hv
  clear hD
  by_cases hE:bt l[i].patch=0
  ·rw [if_neg (by simpa using hE)] at hv
   by_cases hd:D.d=l[i].id.d
   ·rw [if_neg (by simpa using hd)] at hv
    cases i with
    | zero =>
     simp only [rX] at hv
     simp [e0,e3,h,cid,hE,ao,eqd,hd,an,show aJ.length=32 from rfl,List.drop_of_length_le]
     refine ⟨rfl,?_⟩
     simp only [Bool.false_eq_true,if_false] at hv
     rw [hv];simp [rX,List.getElem?_eq_getElem h]
    | succ i =>
     have hi1:i<l.length:=by omega
     have hpv:rX l (i+1)=some l[i].id:=by simp [rX,List.getElem?_eq_getElem hi1]
     have hpv2:rX l (i+1+1)=some l[i+1].id:=by simp [rX,List.getElem?_eq_getElem h]
     rw [hpv] at hv
     simp only [decide_eq_true_eq] at hv
     have w1:IntKind.i64.wrap (i:Int)=i:=iV (by omega)
     have w2:IntKind.i64.wrap ((i:Int)+1+1)=(i:Int)+1+1:=aO (by omega) (by omega)
     have t1:((i:Int)+1).toNat=i+1:=by omega
     have k1:(0:Int)≤(i:Int)+1∧(i:Int)+1<l.length∧(0:Int)<(i:Int)+1:=by omega
     by_cases hc:0≤bQ l[i].id.d D.d
     ·rw [if_pos hc] at hv
      have hres:p4 l=9:=by unfold p4;rw [hv];rfl
      have hc':=hc
      rw [hd] at hc'
      simp [e0,e3,h,hi1,cid,hE,ao,eqd,hd,an,show aJ.length=32 from rfl,List.drop_of_length_le,w1,t1,k1,cmp,hc',hres]
     ·rw [if_neg hc] at hv
      have hc':=hc
      rw [hd] at hc'
      simp [e0,e3,h,hi1,cid,hE,ao,eqd,hd,an,show aJ.length=32 from rfl,List.drop_of_length_le,w1,w2,t1,k1,cmp,hc']
      rw [hv,hpv2]
   ·rw [if_pos hd] at hv
    have hres:p4 l=13:=by unfold p4;rw [hv];rfl
    simp [e0,e3,h,cid,hE,ao,eqd,hd,an,show aJ.length=32 from rfl,List.drop_of_length_le,hres]
  ·rw [if_pos hE] at hv
   have hres:p4 l=bt l[i].patch:=by unfold p4;rw [hv,if_pos hE]
   simp [e0,e3,h,cid,hE,ao,show aJ.length=32 from rfl,hres]
 have h':i=l.length:=by omega
 subst h'
 rw [List.drop_length] at hv
 have h1:sw none l=0:=by rw [hv];unfold sw;cases rX l l.length<;>rfl
 clear hv
 simp [e0,e3,cids]
 refine ay l.length (fun i s H'=>s 0=am k (l.map ag.cells)∧(∃J,H'=H++J)∧s 6=am (gV l) ((l.map fun x=>x.id).map ar.cells)∧s 7=.int .i64 i∧AS (l.map fun x=>x.id) l=AS (l.map fun x=>x.id) (l.drop i)) ?_ ?_
 ·exact ⟨e0,⟨J,rfl⟩,by simp,rfl,rfl⟩
 clear e0 e3
 rintro i s H' ⟨e0,⟨J,rfl⟩,e6,e7,hv⟩ hi
 by_cases h:i<l.length
 ·have hpf:=hl.p _ (List.getElem_mem h)
  rw [List.drop_eq_getElem_cons h,AS] at hv
  have cN:=(wF S.tocW l[i].patch hpf.ok hpf.ok2 hpf.deps hpf.changes hpf.over).eq
  have cA:=((C3 S.tocW (l.map fun x=>x.id) (cP l[i].patch).2 (gV l) (cP l[i].patch).1 (by simp;omega) (wo hpf)).ret (by simp only [AV.closeds,AV.closed,bI (aH ar.closed _),Bool.and_self])).eq
  cases ha:gb (l.map fun x=>x.id) (cP l[i].patch).2 with
  | false =>
   rw [if_pos ha] at hv
   have hres:p4 l=19:=by unfold p4;rw [if_neg (by simpa using h1),hv];rfl
   simp [e0,e7,h,cN,hres]
   rw [e6,cA,ha]
   simp [hres]
  | true =>
   rw [if_neg (by simp [ha])] at hv
   simp [e0,e7,h,cN]
   rw [e6,cA,ha]
   simp [e0,e6,e7,au h (by omega)]
   exact ⟨h,hv⟩
 have h':i=l.length:=by omega
 subst h'
 rw [List.drop_length,AS] at hv
 have h2:=hv
 clear hv
 have hE1:p4 l=if (d9 l l.length []).length<l.length then 20 else AT l l:=by unfold p4;rw [if_neg (by simpa using h1),if_neg (by simpa using h2)]
 by_cases h3:(d9 l l.length []).length<l.length
 ·rw [if_pos h3] at hE1
  simp [e0,e7,cord,h3,hE1]
 rw [if_neg h3] at hE1
 simp [e0,e7,cord,h3]
 refine ay l.length (fun i s H'=>s 0=am k (l.map ag.cells)∧(∃J,H'=H++J)∧s 8=.int .i64 i∧AT l l=AT l (l.drop i)) ?_ ?_
 ·exact ⟨e0,⟨J,rfl⟩,rfl,rfl⟩
 clear e0 e6 e7
 rintro i s H' ⟨e0,⟨J,rfl⟩,e8,hv⟩ hi
 by_cases h:i<l.length
 ·have hpf:=hl.p _ (List.getElem_mem h)
  rw [List.drop_eq_getElem_cons h,AT] at hv
  have cR:=(Ce S l k l[i].patch l[i].id hl hpf).eq
  by_cases h0:qr l l[i].id l[i].patch.changes=0
  ·rw [if_neg (by simpa using h0)] at hv
   simp [e0,e8,h,cR,h0,au h (by omega)]
   exact hv
  ·rw [if_pos h0] at hv
   simp [e0,e8,h,cR,h0,hE1,hv]
 ·have h':i=l.length:=by omega
  subst h'
  rw [List.drop_length,AT] at hv
  simp [e0,e8,hE1,hv]
def qc (s:List ag):Bool:=!kf s&&(p4 s==0)
theorem Hg (S:aV C) (l:List ag) (k:SK) (hl:oj l):b8 Tryz.prog C 4 [] [am k (l.map ag.cells)] (.bool (qc l)):=by
 refine aw (S.pure8 _ (by decide)) fun H=>aj Tryz.func4 rfl (S.prim _ (by decide)) (by simp) (by kernel_rfl) ?_
 unfold Tryz.f4
 have c1:=(Af S l k hl).eq
 cases hh:kf l with
 | true=>simp [aE,c1,hh,an,qc]
 | false =>
  have c2:=(zU S l k (wK hl hh)).eq
  simp [aE,c1,hh,an,qc,c2]
end Go.Proofs.Ev
namespace Go.Proofs.Ev
open Go.Proofs
variable {C:bD}
structure eJ (C:bD):Prop extends aV C where
 pureA:∀f,f∈[200,134,201,287,199,136,78,81]→C.pure f=true
 plainA:∀f,f∈[135]→C.pure f=false∧C.frz f=false
theorem Nx:∀n:Nat,n<32→0<n→IntKind.u64.wrap (BitVec.ofInt 64 (IntKind.u64.wrap (IntKind.i64.wrap (-(n:Int)))) &&& BitVec.ofInt 64 31).toNat=((32-n:Nat):Int):=by decide
theorem Hn (S:eJ C) (x:ol) (n:Nat) (h:n<32) (h0:0<n):b8 Tryz.prog C 287 [] [bT x,.int .i64 (IntKind.i64.wrap (-(n:Int)))] (bT (eT x n)):=by
 refine aw (S.pureA _ (by decide)) fun H=>aj Tryz.func287 rfl (S.prim _ (by decide)) (by simp) (by kernel_rfl) ?_
 unfold Tryz.f287
 have ha:∀t,bP Tryz.prog C .and t (.int .u64 (IntKind.u64.wrap (IntKind.i64.wrap (-(n:Int))))) (.int .u64 31)=some (.int .u64 ((32-n:Nat):Int)):=fun t=>by
  show some (AV.int .u64 (IntKind.u64.wrap (BitVec.ofInt 64 (IntKind.u64.wrap (IntKind.i64.wrap (-(n:Int)))) &&& BitVec.ofInt 64 31).toNat))=_
  rw [Nx n h h0]
 obtain ⟨m,hm⟩:∃m,m=32-n:=⟨_,rfl⟩
 rw [←hm] at ha
 have e1:=fun t=>wS (P:=Tryz.prog) (C:=C) t x .u64 m (by omega)
 have e2:=fun t=>sg (P:=Tryz.prog) (C:=C) t x .u64 n (by omega)
 have w1:IntKind.u64.wrap (32-(m:Int))=(n:Int):=by rw [IntWalk.u64_in _ (by omega)];omega
 have hr:eT x n=x <<< m ||| x >>> n:=by rw [eT,←hm,BitVec.or_comm]
 have cv:∀H y,bn Tryz.prog H 3 209 (.int .i64 y)=some (.int .u64 (IntKind.u64.wrap y),H):=fun H y=>by simp [bn]
 generalize IntKind.i64.wrap (-(n:Int))=y at *
 rw [hr]
 simp [aE,cv,ha,e1,e2,w1,Kh]
theorem fM (S:eJ C) (x:ol) (n:Nat) (h:n<32) (h0:0<n):b8 Tryz.prog C 201 [] [bT x,.int .i64 (n:Int)] (bT (eT x n)):=by
 refine aw (S.pureA _ (by decide)) fun H=>aj Tryz.func201 rfl (S.prim _ (by decide)) (by simp) (by kernel_rfl) ?_
 unfold Tryz.f201
 have e:=(Hn S x n h h0).eq
 simp [aE,e]
theorem uF (S:eJ C):b8 Tryz.prog C 200 [] [] (.agg (pB.map bT)):=by
 refine aw (S.pureA _ (by decide)) fun H=>aj Tryz.func200 rfl (S.prim _ (by decide)) (by simp) (by kernel_rfl) ?_
 unfold Tryz.f200
 simp [aE,ao,aD]
 rw [ak (by simp [AV.closed,AV.closeds])]
 rfl
theorem Ag (S:eJ C):b8 Tryz.prog C 134 [] [] (.agg (gX ou)):=by
 refine aw (S.pureA _ (by decide)) fun H=>aj Tryz.func134 rfl (S.prim _ (by decide)) (by simp) (by kernel_rfl) ?_
 unfold Tryz.f134
 simp [aE,ao,aD]
 rw [ak (by simp [AV.closed,AV.closeds])]
 rfl
def Cr (block:List UInt8) (t:Nat):Nat→ol
 | 0=>0
 | j+1=>Cr block t j <<< 8 ||| kO (block.getD (4*t+j) 0)
theorem OO (block:List UInt8) (t:Nat):Cr block t 4=rv block t:=by
 simp only [Cr,rv]
 generalize kO (block.getD (4*t) 0)=a
 simp only [Nat.add_zero,BitVec.shiftLeft_or_distrib,←BitVec.shiftLeft_add]
 simp
def Aw (block:List UInt8) (T j:Nat):List AV:=(iW block T).take T++bT (Cr block T j)::(iW block T).drop (T+1)
theorem Kj {block:List UInt8} {T j:Nat} (h:T<64):(Aw block T j).length=64:=by
 have:=kx (block:=block) (t:=T) (by omega)
 simp [Aw];omega
theorem Mx {block:List UInt8} {T j:Nat} (h:T<64):(Aw block T j)[T]?=some (bT (Cr block T j)):=by
 have:=kx (block:=block) (t:=T) (by omega)
 have hl:((iW block T).take T).length=T:=by simp;omega
 rw [Aw,List.getElem?_append_right (by omega),hl,Nat.sub_self];rfl
theorem Kk {block:List UInt8} {T j:Nat} (h:T<64):(Aw block T j).take T++bT (Cr block T j <<< 8 ||| kO (block.getD (4*T+j) 0))::(Aw block T j).drop (T+1)=Aw block T (j+1):=by
 have:=kx (block:=block) (t:=T) (by omega)
 have hl:((iW block T).take T).length=T:=by simp;omega
 have e1:(Aw block T j).take T=(iW block T).take T:=by rw [Aw,List.take_append_of_le_length (by omega),List.take_of_length_le (by omega)]
 have e2:(Aw block T j).drop (T+1)=(iW block T).drop (T+1):=by rw [Aw,List.drop_append,List.drop_of_length_le (by omega),hl];simp [show T+1-T=1 by omega]
 rw [e1,e2];rfl
theorem Ii {block:List UInt8} {T:Nat} (h:T<64):Aw block T 0=iW block T:=by
 have hl:=kx (block:=block) (t:=T) (by omega)
 have hat:(iW block T)[T]?=some (bT 0):=by
  rw [iW,List.getElem?_append_right (by rw [List.length_map,c9];omega),List.length_map,c9,Nat.sub_self,show 64-T=(64-T-1)+1 by omega,List.replicate_succ];rfl
 have h1:T<(iW block T).length:=by omega
 have h2:(iW block T)[T]=bT 0:=by rw [List.getElem?_eq_getElem h1] at hat;exact Option.some.inj hat
 rw [Aw]
 show (iW block T).take T++bT 0::(iW block T).drop (T+1)=_
 rw [←h2,←List.drop_eq_getElem_cons h1,List.take_append_drop]
theorem Ih {block:List UInt8} {T:Nat} (h:T<16):Aw block T 4=iW block (T+1):=by
 rw [Aw,OO];exact qA (by omega) (by rw [if_pos h])
set_option maxRecDepth 100000 in
set_option maxHeartbeats 4000000 in
theorem vu (S:eJ C) (block:List UInt8) (hb:block.length=64):b8 Tryz.prog C 199 [] [.str block] (.agg ((bp block 64).map bT)):=by
 refine aw (S.pureA _ (by decide)) fun H=>aj Tryz.func199 rfl (S.prim _ (by decide)) (by simp) (by kernel_rfl) ?_
 unfold Tryz.f199
 have sh8:∀t x,bP Tryz.prog C .shl t (bT x) (.int .u64 8)=some (bT (x <<< 8)):=fun t x=>wS t x .u64 8 (by decide)
 have sr10:∀t x,bP Tryz.prog C .shr t (bT x) (.int .u64 10)=some (bT (x >>> 10)):=fun t x=>sg t x .u64 10 (by decide)
 have sr3:∀t x,bP Tryz.prog C .shr t (bT x) (.int .u64 3)=some (bT (x >>> 3)):=fun t x=>sg t x .u64 3 (by decide)
 have r17:∀x base H K,aF Tryz.prog C base (.fn 201 []) [bT x,.int .i64 17] H K=K (bT (eT x 17)) H:=fun x=>(fM S x 17 (by decide) (by decide)).eq
 have r19:∀x base H K,aF Tryz.prog C base (.fn 201 []) [bT x,.int .i64 19] H K=K (bT (eT x 19)) H:=fun x=>(fM S x 19 (by decide) (by decide)).eq
 have r7:∀x base H K,aF Tryz.prog C base (.fn 201 []) [bT x,.int .i64 7] H K=K (bT (eT x 7)) H:=fun x=>(fM S x 7 (by decide) (by decide)).eq
 have r18:∀x base H K,aF Tryz.prog C base (.fn 201 []) [bT x,.int .i64 18] H K=K (bT (eT x 18)) H:=fun x=>(fM S x 18 (by decide) (by decide)).eq
 simp [aE]
 refine ay 64 (fun T s H'=>∃(Z:List AV) (J:ae),Z.length=64∧s 0=.str block∧s 2=.ptr H.length 0 64 0 0∧s 3=.ptr (H.length+1) 0 64 0 0∧s 9=.int .i64 T∧H'=H++.rows 64 0 [Z]::.rows 64 0 [iW block T]::J) ?_ ?_
 ·exact ⟨List.replicate 64 (.int .u32 0),[],rfl,rfl,rfl,rfl,rfl,rfl⟩
 rintro T s H' ⟨Z,J,hZ,e0,e2,e3,e9,rfl⟩ hT
 have hl:=kx (block:=block) (t:=T) (by omega)
 by_cases h:T<64
 ·have kT:(T:Int)<64∧T<64∧T+1≤64:=by omega
  by_cases h16:T<16
  ·have k16:(T:Int)<16:=by omega
   obtain ⟨q,hq⟩:∃q,q=4*T:=⟨_,rfl⟩
   have w0:IntKind.i64.wrap (4*(T:Int))=(q:Int):=by rw [aO (by omega) (by omega)];omega
   have w4:IntKind.i64.wrap ((q:Int)+4)=((q+4:Nat):Int):=by rw [aO (by omega) (by omega)];omega
   obtain ⟨q4,hq4⟩:∃q4,q4=q+4:=⟨_,rfl⟩
   rw [←hq4] at w4
   obtain ⟨B,hB⟩:∃B,B=(block.take q4).drop q:=⟨_,rfl⟩
   have hBl:B.length=4:=by rw [hB];simp;omega
   have hBat:∀j,j<4→B[j]?=some (block.getD (q+j) 0):=by
    intro j hj
    rw [hB,List.getElem?_drop,List.getElem?_take,if_pos (by omega),List.getD_eq_getElem?_getD,List.getElem?_eq_getElem (show q+j<block.length by omega)];rfl
   simp [e0,e2,e3,e9,kT,k16,w0,w4,dw,bH,hb,show (q4:Int)<65 by omega,show (q:Int)<(q4:Int)+1 by omega,←hB,bn,hBl]
   refine ay 4 (fun j s H'=>s 0=.str block∧s 2=.ptr H.length 0 64 0 0∧s 3=.ptr (H.length+1) 0 64 0 0∧s 9=.int .i64 T∧s 4=.int .i64 T∧s 21=.sl (H.length+(J.length+1+1)) 0 1 0 4∧s 22=.int .i64 4∧s 23=.int .i64 j∧H'=H++.rows 64 0 [Z]::.rows 64 0 [Aw block T j]::(J++[.rows 1 0 (B.map fun b=>[.int .u8 b.toNat])])) ?_ ?_
   ·exact ⟨e0,e2,e3,e9,rfl,by simp,rfl,rfl,by rw [Ii kT.2.1]⟩
   clear e0 e2 e3 e9
   rintro j s H' ⟨e0,e2,e3,e9,e4,e21,e22,e23,rfl⟩ hj
   have hwl:=Kj (block:=block) (T:=T) (j:=j) kT.2.1
   by_cases hj4:j<4
   ·have hat:=Mx (block:=block) (T:=T) (j:=j) kT.2.1
    have hset:=Kk (block:=block) (T:=T) (j:=j) kT.2.1
    have hBj:=hBat j hj4
    rw [←hq] at hset
    generalize block.getD (q+j) 0=b at hBj hset
    generalize hwa:Cr block T j=a at hat hset
    generalize hwc:Aw block T j=Wc at *
    simp [-getElem?_pos,List.getElem?_cons_zero,e0,e2,e3,e9,e4,e21,e22,e23,show (j:Int)<4 by omega,hj4,hBj,kT,hat,sh8,bn,vT,Kh,ao,hwl,hset,au hj4 (by decide)]
   ·have hj':j=4:=by omega
    subst hj'
    rw [Ih h16]
    simp [e0,e2,e3,e9,e4,e21,e22,e23,hZ,au kT.2.1 (by decide),h]
  ·have k16:¬(T:Int)<16:=by omega
   obtain ⟨j15,hj15⟩:∃j,j=T-15:=⟨_,rfl⟩
   obtain ⟨j2,hj2⟩:∃j,j=T-2:=⟨_,rfl⟩
   obtain ⟨j7,hj7⟩:∃j,j=T-7:=⟨_,rfl⟩
   obtain ⟨j16,hj16⟩:∃j,j=T-16:=⟨_,rfl⟩
   have w15:IntKind.i64.wrap ((T:Int)-15)=(j15:Int):=by rw [aO (by omega) (by omega)];omega
   have w2:IntKind.i64.wrap ((T:Int)-2)=(j2:Int):=by rw [aO (by omega) (by omega)];omega
   have w7:IntKind.i64.wrap ((T:Int)-7)=(j7:Int):=by rw [aO (by omega) (by omega)];omega
   have w16:IntKind.i64.wrap ((T:Int)-16)=(j16:Int):=by rw [aO (by omega) (by omega)];omega
   have a15:=kS (block:=block) (t:=T) (j:=j15) (by omega)
   have a2:=kS (block:=block) (t:=T) (j:=j2) (by omega)
   have a7:=kS (block:=block) (t:=T) (j:=j7) (by omega)
   have a16:=kS (block:=block) (t:=T) (j:=j16) (by omega)
   have hset:=qA (block:=block) (t:=T) (x:=rT (bp block T)) (by omega) (by rw [if_neg (by omega)])
   have hn:rT (bp block T)=((eT ((bp block T).getD j2 0) 17 ^^^ eT ((bp block T).getD j2 0) 19 ^^^ (bp block T).getD j2 0 >>> 10)+(bp block T).getD j7 0+(eT ((bp block T).getD j15 0) 7 ^^^ eT ((bp block T).getD j15 0) 18 ^^^ (bp block T).getD j15 0 >>> 3))+(bp block T).getD j16 0:=by
    unfold rT
    simp only [c9]
    rw [←hj15,←hj2,←hj7,←hj16]
   rw [hn] at hset
   generalize (bp block T).getD j2 0=b0 at a2 hset
   generalize (bp block T).getD j7 0=b1 at a7 hset
   generalize (bp block T).getD j15 0=b2 at a15 hset
   generalize (bp block T).getD j16 0=b3 at a16 hset
   have k15:(j15:Int)<64∧j15<64:=by omega
   have k2:(j2:Int)<64∧j2<64:=by omega
   have k7:(j7:Int)<64∧j7<64:=by omega
   have kk16:(j16:Int)<64∧j16<64:=by omega
   simp [-getElem?_pos,List.getElem?_cons_zero,e0,e2,e3,e9,k16,w15,w2,w7,w16,a15,a2,a7,a16,k15,k2,k7,kk16,kT,r17,r19,r7,r18,sr10,sr3,wR,De,ao,hl]
   rw [aL (h:=by kernel_rfl)]
   simp [h,e0,e2,e3,e9,au kT.2.1 (by decide),hl,kT]
   exact ⟨Z,hZ,rfl,hset⟩
 ·have h:T=64:=by omega
  subst h
  have e64:iW block 64=(bp block 64).map bT:=by simp [iW]
  have l64:=c9 block 64
  rw [e64] at hl ⊢
  generalize bp block 64=W at *
  simp [e0,e2,e3,e9,ao,hZ,List.take_of_length_le,List.drop_of_length_le (Nat.le_of_eq hZ),l64]
  exact ak (v:=.agg (W.map bT)) (qR W)
set_option maxRecDepth 100000 in
set_option maxHeartbeats 4000000 in
theorem yf (S:eJ C) (v0:vz) (block:List UInt8) (hb:block.length=64):b8 Tryz.prog C 136 [] [.agg (gX v0),.str block] (.agg (gX (nO v0 block))):=by
 refine aw (S.pureA _ (by decide)) fun H=>aj Tryz.func136 rfl (S.prim _ (by decide)) (by simp) (by kernel_rfl) ?_
 unfold Tryz.f136
 have r6:∀x base H K,aF Tryz.prog C base (.fn 201 []) [bT x,.int .i64 6] H K=K (bT (eT x 6)) H:=fun x=>(fM S x 6 (by decide) (by decide)).eq
 have r11:∀x base H K,aF Tryz.prog C base (.fn 201 []) [bT x,.int .i64 11] H K=K (bT (eT x 11)) H:=fun x=>(fM S x 11 (by decide) (by decide)).eq
 have Me:∀x base H K,aF Tryz.prog C base (.fn 201 []) [bT x,.int .i64 25] H K=K (bT (eT x 25)) H:=fun x=>(fM S x 25 (by decide) (by decide)).eq
 have r2:∀x base H K,aF Tryz.prog C base (.fn 201 []) [bT x,.int .i64 2] H K=K (bT (eT x 2)) H:=fun x=>(fM S x 2 (by decide) (by decide)).eq
 have r13:∀x base H K,aF Tryz.prog C base (.fn 201 []) [bT x,.int .i64 13] H K=K (bT (eT x 13)) H:=fun x=>(fM S x 13 (by decide) (by decide)).eq
 have r22:∀x base H K,aF Tryz.prog C base (.fn 201 []) [bT x,.int .i64 22] H K=K (bT (eT x 22)) H:=fun x=>(fM S x 22 (by decide) (by decide)).eq
 have c1:=(vu S block hb).eq
 have c2:=(uF S).eq
 have l1:((bp block 64).map bT).length=64:=by rw [List.length_map,c9]
 have l2:(pB.map bT).length=64:=rfl
 obtain ⟨fW,hfW⟩:∃f:Nat→ol,f=fun t=>(bp block 64).getD t 0:=⟨_,rfl⟩
 obtain ⟨fK,hfK⟩:∃f:Nat→ol,f=fun t=>pB.getD t 0:=⟨_,rfl⟩
 have hround:∀t,cJ block v0 (t+1)=Cg (cJ block v0 t) (fK t) (fW t):=fun t=>by rw [hfK,hfW];rfl
 have hs:∀t,t<64→((bp block 64).map bT)[t]?=some (bT (fW t)):=fun t ht=>by
  rw [hfW,List.getElem?_map];simp only;rw [List.getD_eq_getElem?_getD,List.getElem?_eq_getElem (by rw [c9];exact ht)];rfl
 have hk:∀t,t<64→(pB.map bT)[t]?=some (bT (fK t)):=fun t ht=>by
  rw [hfK,List.getElem?_map];simp only;rw [List.getD_eq_getElem?_getD,List.getElem?_eq_getElem (show t<pB.length from ht)];rfl
 have hfin:nO v0 block=⟨v0.a+(cJ block v0 64).a,v0.b+(cJ block v0 64).b,v0.c+(cJ block v0 64).c,v0.d+(cJ block v0 64).d,v0.e+(cJ block v0 64).e,v0.f+(cJ block v0 64).f,v0.g+(cJ block v0 64).g,v0.h+(cJ block v0 64).h⟩:=rfl
 rw [hfin]
 have h0:cJ block v0 0=v0:=rfl
 have q1:∀x∈(bp block 64).map bT,x.leaf=true:=by intro x hx;obtain ⟨y,_,rfl⟩:=List.mem_map.1 hx;rfl
 have q2:∀x∈pB.map bT,x.leaf=true:=by intro x hx;obtain ⟨y,_,rfl⟩:=List.mem_map.1 hx;rfl
 clear hfW hfK
 generalize cJ block v0=R at *
 generalize (bp block 64).map bT=W at *
 generalize pB.map bT=Kc at *
 simp [aE,gX,ao,aD,c1,c2,l1,l2]
 refine ⟨q1,q2,?_⟩
 refine ay 64 (fun i s H'=>∃Z,Z.length=8∧s 2=.ptr H.length 0 8 0 0∧s 4=.ptr (H.length+1) 0 8 0 0∧s 5=.ptr (H.length+2) 0 64 0 0∧s 6=.ptr (H.length+3) 0 64 0 0∧s 39=.int .i64 i∧
  s 7=bT (R i).a∧s 8=bT (R i).b∧s 9=bT (R i).c∧s 10=bT (R i).d∧s 11=bT (R i).e∧s 12=bT (R i).f∧s 13=bT (R i).g∧s 14=bT (R i).h∧
  H'=H++[.rows 8 0 [gX v0],.rows 8 0 [Z],.rows 64 0 [W],.rows 64 0 [Kc]]) ?_ ?_
 ·refine ⟨List.replicate 8 (.int .u32 0),rfl,rfl,rfl,rfl,rfl,rfl,?_⟩
  rw [h0];exact ⟨rfl,rfl,rfl,rfl,rfl,rfl,rfl,rfl,rfl⟩
 rintro i s H' ⟨Z,hZ,e2,e4,e5,e6,e39,e7,e8,e9,e10,e11,e12,e13,e14,rfl⟩ hi
 by_cases h:i<64
 ·have hs:=hs i h
  have hk:=hk i h
  have hr:=hround i
  have hi64:(i:Int)<64:=by omega
  simp [-getElem?_pos,List.getElem?_cons_zero,gX,e2,e4,e5,e6,e39,e7,e8,e9,e10,e11,e12,e13,e14,hi64,h,hs,hk,r6,r11,Me,r2,r13,r22,wR,De,K6,K7,aD,ao,au h (by decide)]
  refine ⟨Z,hZ,?_⟩
  rw [hr]
  exact ⟨rfl,rfl,rfl,rfl,rfl,rfl,rfl,rfl,rfl⟩
 have h:i=64:=by omega
 subst h
 clear hround hs hk
 generalize R 64=v at *
 simp [e2,e4,e5,e6,e39,e7,e8,e9,e10,e11,e12,e13,e14,aD]
 refine ay 8 (fun i s H'=>s 2=.ptr H.length 0 8 0 0∧s 4=.ptr (H.length+1) 0 8 0 0∧s 110=.agg (gX v)∧s 111=.int .i64 i∧
  H'=H++[.rows 8 0 [(gX ⟨v0.a+v.a,v0.b+v.b,v0.c+v.c,v0.d+v.d,v0.e+v.e,v0.f+v.f,v0.g+v.g,v0.h+v.h⟩).take i++(gX v0).drop i],.rows 8 0 [Z],.rows 64 0 [W],.rows 64 0 [Kc]]) ?_ ?_
 ·exact ⟨e2,e4,rfl,rfl,rfl⟩
 clear e2 e4 e5 e6 e39 e7 e8 e9 e10 e11 e12 e13 e14
 rintro i s H' ⟨e2,e4,e110,e111,rfl⟩ hi
 by_cases h:i<8
 ·have hk:i=0∨i=1∨i=2∨i=3∨i=4∨i=5∨i=6∨i=7:=by omega
  rcases hk with rfl | rfl | rfl | rfl | rfl | rfl | rfl | rfl
  all_goals
   simp [gX,e2,e4,e110,e111,kZ,nH,wR,ao]
   rfl
 have h:i=8:=by omega
 subst h
 simp [gX,e2,e4,e110,e111,ao,List.drop_of_length_le (Nat.le_of_eq hZ)]
 exact ⟨by omega,ak rfl⟩
end Go.Proofs.Ev
