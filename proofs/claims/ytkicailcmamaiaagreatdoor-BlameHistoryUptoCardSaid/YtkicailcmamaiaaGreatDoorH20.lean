/- Part 20 of the proof that quiltlaw38.BlameHistory returns true: no statement of its own. -/
import Derived.Test.YtkicailcmamaiaaGreatDoorH18
import Derived.Test.YtkicailcmamaiaaGreatDoorH14
import Derived.Test.YtkicailcmamaiaaGreatDoorH19
set_option linter.all false
namespace Go.Proofs.Ev
open Go.Proofs
variable {C:bD} {σ:aZ}
structure bw (C:bD) (σ:aZ):Prop extends jW C σ where
 pureS:∀f,f∈[109,138,82,106,112,173,
  64,116,55,110,111,56,53,107]→C.pure f=true
 plainS:∀f,f∈[108]→C.pure f=false∧C.frz f=false
def jt {α:Type} (q:α→Bool):List α→Nat→Int
 | [],_=>-1
 | x::l,i=>if q x then (i:Int) else jt q l (i+1)
theorem jR {α:Type} (q:α→Bool):∀(l:List α) (i:Nat),(∀x,l.find? q=some x→∃j,jt q l i=((i+j:Nat):Int)∧l[j]?=some x)∧(l.find? q=none→jt q l i = -1)
 | [],i=>by simp [jt]
 | x::l,i=>by
  have ih:=jR q l (i+1)
  rw [jt,List.find?_cons]
  cases hq:q x with
  | true=>simp;exact ⟨0,by simp⟩
  | false =>
   simp only [Bool.false_eq_true,if_false]
   refine ⟨fun y hy=>?_,ih.2⟩
   obtain ⟨j,h1,h2⟩:=ih.1 y hy
   exact ⟨j+1,by rw [h1];omega,h2⟩
theorem CJ {α:Type} (q:α→Bool) (l:List α) (i:Nat):(0≤jt q l i)↔(l.find? q).isSome=true:=by
 cases h:l.find? q with
 | none=>rw [(jR q l i).2 h];simp
 | some x=>obtain ⟨j,h1,_⟩:=(jR q l i).1 x h;rw [h1];simp;omega
theorem wd (S:bw C σ) {base:Nat} {H:ae} {k:SK} {l:List ag} {f:AV} {q:ag→Bool} (hl:l.length≤2^40) (hf:∀x∈l,∀(base:Nat) (K:AV→ae→Prop),aF Tryz.prog C base f [.agg x.cells] H K=K (.bool (q x)) H) (K:AV→ae→Prop) :
 aF Tryz.prog C base (.fn 109 []) [am k (l.map ag.cells),f] H K=K (.int .i64 (jt q l 0)) H:=by
 refine aF.eq (eH (S.pureS _ (by decide)) (aj Tryz.func109 rfl (S.prim _ (by decide)) (by simp) (by kernel_rfl) ?_)) K
 unfold Tryz.f109
 simp [aE]
 refine ay l.length (fun i s H'=>s 0=am k (l.map ag.cells)∧s 1=f∧s 7=.int .i64 l.length∧s 8=.int .i64 i∧H'=H∧jt q l 0=jt q (l.drop i) i) ?_ ?_
 ·exact ⟨rfl,rfl,rfl,rfl,rfl,rfl⟩
 rintro i s H' ⟨q0,q1,q7,q8,rfl,hc⟩ hi
 by_cases h:i<l.length
 ·rw [List.drop_eq_getElem_cons h,jt] at hc
  have ef:=hf l[i] (List.getElem_mem h) H'.length
  cases hq:q l[i] with
  | true =>
   rw [hq,if_pos rfl] at hc
   rw [hq] at ef
   simp [q0,q1,q7,q8,h,hc,ef]
  | false =>
   rw [hq,if_neg (by decide)] at hc
   rw [hq] at ef
   simp [q0,q1,q7,q8,h,hc,ef,au h (by omega)]
 ·have h':i=l.length:=by omega
  subst h'
  rw [List.drop_length,jt] at hc
  simp [q0,q1,q7,q8,hc]
theorem DX (S:bw C σ) {base:Nat} {H:ae} {k:SK} {l:List ar} {f:AV} {q:ar→Bool} (hl:l.length≤2^40) (hf:∀x∈l,∀(base:Nat) (K:AV→ae→Prop),aF Tryz.prog C base f [.agg x.cells] H K=K (.bool (q x)) H) (K:AV→ae→Prop) :
 aF Tryz.prog C base (.fn 138 []) [am k (l.map ar.cells),f] H K=K (.int .i64 (jt q l 0)) H:=by
 refine aF.eq (eH (S.pureS _ (by decide)) (aj Tryz.func138 rfl (S.prim _ (by decide)) (by simp) (by kernel_rfl) ?_)) K
 unfold Tryz.f138
 simp [aE]
 refine ay l.length (fun i s H'=>s 0=am k (l.map ar.cells)∧s 1=f∧s 7=.int .i64 l.length∧s 8=.int .i64 i∧H'=H∧jt q l 0=jt q (l.drop i) i) ?_ ?_
 ·exact ⟨rfl,rfl,rfl,rfl,rfl,rfl⟩
 rintro i s H' ⟨q0,q1,q7,q8,rfl,hc⟩ hi
 by_cases h:i<l.length
 ·rw [List.drop_eq_getElem_cons h,jt] at hc
  have ef:=hf l[i] (List.getElem_mem h) H'.length
  cases hq:q l[i] with
  | true =>
   rw [hq,if_pos rfl] at hc
   rw [hq] at ef
   simp [q0,q1,q7,q8,h,hc,ef]
  | false =>
   rw [hq,if_neg (by decide)] at hc
   rw [hq] at ef
   simp [q0,q1,q7,q8,h,hc,ef,au h (by omega)]
 ·have h':i=l.length:=by omega
  subst h'
  rw [List.drop_length,jt] at hc
  simp [q0,q1,q7,q8,hc]
theorem DW (S:bw C σ) {base:Nat} {H:ae} {k:SK} {l:List aG} {f:AV} {q:aG→Bool} (hl:l.length≤2^40) (hf:∀x∈l,∀(base:Nat) (K:AV→ae→Prop),aF Tryz.prog C base f [.agg x.cells] H K=K (.bool (q x)) H) (K:AV→ae→Prop) :
 aF Tryz.prog C base (.fn 106 []) [am k (l.map aG.cells),f] H K=K (.int .i64 (jt q l 0)) H:=by
 refine aF.eq (eH (S.pureS _ (by decide)) (aj Tryz.func106 rfl (S.prim _ (by decide)) (by simp) (by kernel_rfl) ?_)) K
 unfold Tryz.f106
 simp [aE]
 refine ay l.length (fun i s H'=>s 0=am k (l.map aG.cells)∧s 1=f∧s 7=.int .i64 l.length∧s 8=.int .i64 i∧H'=H∧jt q l 0=jt q (l.drop i) i) ?_ ?_
 ·exact ⟨rfl,rfl,rfl,rfl,rfl,rfl⟩
 rintro i s H' ⟨q0,q1,q7,q8,rfl,hc⟩ hi
 by_cases h:i<l.length
 ·rw [List.drop_eq_getElem_cons h,jt] at hc
  have ef:=hf l[i] (List.getElem_mem h) H'.length
  cases hq:q l[i] with
  | true =>
   rw [hq,if_pos rfl] at hc
   rw [hq] at ef
   simp [q0,q1,q7,q8,h,hc,ef]
  | false =>
   rw [hq,if_neg (by decide)] at hc
   rw [hq] at ef
   simp [q0,q1,q7,q8,h,hc,ef,au h (by omega)]
 ·have h':i=l.length:=by omega
  subst h'
  rw [List.drop_length,jt] at hc
  simp [q0,q1,q7,q8,hc]
theorem bM {X:ae} {b e g:Nat} {row:List AV} (hg:ax X b g e 0=some row) (L:ae):ax (X++L) b g e 0=some row:=by
 have hb:b<X.length:=by
  rcases Nat.lt_or_ge b X.length with h | h
  ·exact h
  ·simp [ax,List.getElem?_eq_none h] at hg
 simp only [ax] at hg ⊢;rw [List.getElem?_append_left hb];exact hg
theorem IY (S:bw C σ) {base b:Nat} {H:ae} {d:ar} (hg:ax H b 0 32 0=some d.cells) (x:ag) (K:AV→ae→Prop) :
 aF Tryz.prog C base (.fn 116 [.ptr b 0 32 0 0]) [.agg x.cells] H K=K (.bool (decide (x.id.d=d.d))) H:=by
 refine aF.eq (eH (S.pureS _ (by decide)) (aj Tryz.func116 rfl (S.prim _ (by decide)) (by simp) (by kernel_rfl) ?_)) K
 unfold Tryz.f116
 have e:=jL S.toaz
 simp [aE,bM hg,e]
theorem uB (S:bw C σ) (l:List ag) (k:SK) (d:ar) (hl:l.length≤2^20):b8 Tryz.prog C 64 [] [am k (l.map ag.cells),.agg d.cells] (.tup [.agg (bY l d.d).cells,.bool (fU l d.d)]):=by
 refine aw (S.pureS _ (by decide)) fun H=>aj Tryz.func64 rfl (S.prim _ (by decide)) (by simp) (by kernel_rfl) ?_
 unfold Tryz.f64
 have e:=fun (K:AV→ae→Prop)=>wd S (base:=H.length) (H:=H++[.rows 32 0 [d.cells],.rows 5 0 [kU.cells]]) (k:=k) (l:=l) (f:=.fn 116 [.ptr H.length 0 32 0 0]) (q:=fun x=>decide (x.id.d=d.d)) (by omega) (fun x _ base K=>IY S (by simp) x K) K
 obtain ⟨i1,i2⟩:=jR (fun x:ag=>decide (x.id.d=d.d)) l 0
 unfold bY fU
 cases hf:l.find? (fun x=>decide (x.id.d=d.d)) with
 | none =>
  have h0:=i2 hf
  rw [h0] at e
  simp [aE,e,ao,aD]
  exact bb (ak (v:=.agg _) (aA.closed _)) (by simp)
 | some x =>
  obtain ⟨j,h1,h2⟩:=i1 x hf
  rw [h1] at e
  have hj:j<l.length:=(List.getElem?_eq_some_iff.1 h2).1
  have hjx:l[j]=x:=by rw [List.getElem?_eq_getElem hj] at h2;exact Option.some.inj h2
  simp only [Nat.zero_add] at e
  simp [aE,e,ao,aD,hj,hjx,show ¬(j:Int)<0 by omega]
  exact bb (ak (v:=.agg _) (aA.closed _)) (by simp)
end Go.Proofs.Ev
namespace Go.Proofs.Ev
open Go.Proofs
variable {C:bD} {σ:aZ}
theorem sJ (S:az C) (d:ar):iZ Tryz.prog C 25 (.agg d.cells)=true:=by
 have h1:=fE d.d;rw [d.h] at h1
 have hd:d.cells=dig d.d:=rfl
 simp only [iZ,QD,S.kDig,hd]
 exact h1
theorem I5 (S:az C) (a b:ar):fP Tryz.prog C 25 (.agg a.cells) (.agg b.cells)=some (decide (a.d=b.d)):=by
 have h1:=fE a.d;rw [a.h] at h1
 have h2:=fE b.d;rw [b.h] at h2
 have ha:a.cells=dig a.d:=rfl
 have hb:b.cells=dig b.d:=rfl
 simp only [fP,qK,S.kDig,ha,hb,h1,h2,Bool.and_self,if_true,jq a.d b.d (by rw [a.h,b.h])]
def jr (l:List (ar×AV)):List (AV×AV):=l.map fun x=>(.agg x.1.cells,x.2)
def ld (l:List (ar×AV)) (d:List Nat):Option (Nat×AV) :=
 match l with
 | []=>none
 | x::l=>if x.1.d=d then some (0,x.2) else (ld l d).map fun p=>(p.1+1,p.2)
theorem tY (S:az C) (d:ar):∀(l:List (ar×AV)) (i:Nat),d6 Tryz.prog C 25 (.agg d.cells) (jr l) i=some ((ld l d.d).map fun p=>(p.1+i,p.2))
 | [],i=>rfl
 | x::l,i=>by
  have ih:=tY S d l (i+1)
  rw [jr,List.map_cons,d6,I5 S,ld]
  by_cases h:x.1.d=d.d
  ·rw [if_pos h,show decide (d.d=x.1.d)=true by simp [h]];simp
  ·rw [if_neg h,show decide (d.d=x.1.d)=false by simp [Ne.symm h]]
   show d6 Tryz.prog C 25 (.agg d.cells) (jr l) (i+1)=_
   rw [ih]
   cases ld l d.d with
   | none=>rfl
   | some p=>simp;omega
def iK (out:List ar):List (ar×AV):=out.map fun d=>(d,.bool true)
theorem ux:∀(out:List ar) (d:List Nat),(ld (iK out) d).isSome=dg out d∧∀p,ld (iK out) d=some p→p.2=.bool true
 | [],d=>by simp [iK,ld,dg]
 | x::l,d=>by
  have ih:=ux l d
  have hc:ld (iK (x::l)) d=if x.d=d then some (0,.bool true) else (ld (iK l) d).map fun p=>(p.1+1,p.2):=rfl
  rw [hc]
  by_cases h:x.d=d
  ·rw [if_pos h]
   exact ⟨by simp [dg,h],fun p hp=>by cases hp;rfl⟩
  ·rw [if_neg h]
   refine ⟨?_,fun p hp=>?_⟩
   ·rw [Option.isSome_map,ih.1];simp [dg,h]
   ·cases hq:ld (iK l) d with
    | none=>rw [hq] at hp;cases hp
    | some q=>rw [hq] at hp;cases hp;exact ih.2 q hq
theorem wl (S:az C) {X:ae} {m:Nat} {out:List ar} (hm:X[m]?=some (.map (jr (iK out)))) (d:ar):cU Tryz.prog C X 194 (.map m) (.agg d.cells) false=some (.bool (dg out d.d)):=by
 have hf:=tY S d (iK out) 0
 obtain ⟨h1,h2⟩:=ux out d.d
 simp only [cU,K3,sJ S,iY,hm,hf,if_true]
 cases hp:ld (iK out) d.d with
 | none=>rw [hp] at h1;simp at h1;simp [←h1]
 | some p=>rw [hp] at h1;simp at h1;simp [h2 p hp,←h1]
theorem Ie (S:az C) {base:Nat} {X:ae} {m:Nat} {out:List ar} (hb:base≤m) (hm:X[m]?=some (.map (jr (iK out)))) (d:ar) (hd:dg out d.d=false) :
 dS Tryz.prog C base X 194 (.map m) (.agg d.cells) (.bool true)=some (X.set m (.map (jr (iK (out++[d]))))):=by
 have hf:=tY S d (iK out) 0
 obtain ⟨h1,h2⟩:=ux out d.d
 simp only [dS,K3,sJ S,hm,hf,hb,and_self,if_true]
 cases hp:ld (iK out) d.d with
 | none=>simp [jr,iK]
 | some p=>rw [hp,hd] at h1;simp at h1
def fA (σ:aZ) (s:List ag):List (ar×AV):=s.map fun x=>(x.id,am (if cM x.patch=[] then .exact else .loose) ((dQ σ x.patch).map ar.cells))
def cr (s:List ag):Prop:=(∀x∈s,x.patch.Good)∧s.Pairwise (fun x y=>x.id.d≠y.id.d)∧s.length≤2^20
theorem Ey {s:List ag} (hu:s.Pairwise (fun x y=>x.id.d≠y.id.d)) {x:ag} (hx:x∈s):∃j,ld (fA σ s) x.id.d=some (j,am (if cM x.patch=[] then .exact else .loose) ((dQ σ x.patch).map ar.cells)):=by
 induction s with
 | nil=>cases hx
 | cons y l ih =>
  rw [List.pairwise_cons] at hu
  show ∃j,ld ((y.id,_)::fA σ l) x.id.d=_
  rw [ld]
  rcases List.mem_cons.1 hx with rfl | hx
  ·exact ⟨0,by rw [if_pos rfl]⟩
  ·obtain ⟨j,hj⟩:=ih hu.2 hx
   exact ⟨j+1,by rw [if_neg (hu.1 x hx),hj];rfl⟩
theorem uy {s:List ag} {d:List Nat} (h:∀x∈s,x.id.d≠d):ld (fA σ s) d=none:=by
 induction s with
 | nil=>rfl
 | cons y l ih =>
  show ld ((y.id,_)::fA σ l) d=_
  rw [ld,if_neg (h y (by simp)),ih fun x hx=>h x (by simp [hx])];rfl
end Go.Proofs.Ev
namespace Go.Proofs.Ev
open Go.Proofs
variable {C:bD} {σ:aZ}
theorem Fe (S:az C) {base:Nat} {X:ae} {m:Nat} {l:List (ar×AV)} (hb:base≤m) (hm:X[m]?=some (.map (jr l))) (d:ar) (v:AV) (hd:ld l d.d=none) :
 dS Tryz.prog C base X 192 (.map m) (.agg d.cells) v=some (X.set m (.map (jr (l++[(d,v)])))):=by
 have hf:=tY S d l 0
 rw [hd] at hf
 simp only [dS,K0,sJ S,hm,hf,hb,and_self,if_true]
 simp [jr]
theorem BD (S:az C) {X:ae} {m:Nat} {l:List (ar×AV)} (hm:X[m]?=some (.map (jr l))) (d:ar) {j:Nat} {v:AV} (hd:ld l d.d=some (j,v)):cU Tryz.prog C X 192 (.map m) (.agg d.cells) false=some v:=by
 have hf:=tY S d l 0
 rw [hd] at hf
 simp only [cU,K0,sJ S,iY,hm,hf,if_true]
 simp
set_option maxHeartbeats 2000000 in
theorem Gv (S:bw C σ) (l:List ag) (k:SK) (hl:cr l) {base:Nat} {H:ae} (hb:base≤H.length) :
 ∃J,∀K:AV→ae→Prop,aF Tryz.prog C base (.fn 108 []) [am k (l.map ag.cells)] H K=K (.map H.length) (H++.map (jr (fA σ l))::J):=by
 obtain ⟨hl1,hl2,hl3⟩:=hl
 suffices h:aF Tryz.prog C base (.fn 108 []) [am k (l.map ag.cells)] H (fun v' H'=>∃J,v'=.map H.length∧H'=H++.map (jr (fA σ l))::J) by
  obtain ⟨n,v1,H1,h1,J,rfl,rfl⟩:=h
  exact ⟨J,fun K=>aF.eq ⟨n,_,_,h1,rfl,rfl⟩ K⟩
 refine bW (S.plainS _ (by decide)).1 (S.plainS _ (by decide)).2 (aj Tryz.func108 rfl (S.prim _ (by decide)) (by simp) (by kernel_rfl) ?_)
 unfold Tryz.f108
 simp [aE]
 refine ay l.length (fun i s H'=>s 3=.map H.length∧s 7=am k (l.map ag.cells)∧s 8=.int .i64 l.length∧s 9=.int .i64 i∧∃J,H'=H++.map (jr (fA σ (l.take i)))::J) ?_ ?_
 ·exact ⟨rfl,rfl,rfl,rfl,[],rfl⟩
 rintro i s H' ⟨q3,q7,q8,q9,J,rfl⟩ hi
 by_cases h:i<l.length
 ·have hm:=List.getElem_mem h
  have en:=(rn S.tojW l[i].patch (hl1 _ hm)).eq
  have hp:ld (fA σ (l.take i)) l[i].id.d=none:=uy fun x hx=>by
   obtain ⟨j,hj,rfl⟩:=List.getElem_of_mem hx
   have hjl:j<i:=by simp at hj;omega
   rw [List.getElem_take]
   exact List.pairwise_iff_getElem.1 hl2 j i (by omega) h hjl
  have hg:fA σ (l.take (i+1))=fA σ (l.take i)++[(l[i].id,am (if cM l[i].patch=[] then .exact else .loose) ((dQ σ l[i].patch).map ar.cells))]:=by
   unfold fA;rw [List.take_add_one,List.getElem?_eq_getElem h,List.map_append];rfl
  have eu:=Fe S.toaz (base:=base) (X:=H++.map (jr (fA σ (l.take i)))::(J++[.rows 37 0 [l[i].cells]])) (m:=H.length) hb (by simp) l[i].id (am (if cM l[i].patch=[] then .exact else .loose) ((dQ σ l[i].patch).map ar.cells)) hp
  rw [←hg] at eu
  obtain ⟨v,hv⟩:∃v,v=am (if cM l[i].patch=[] then .exact else .loose) ((dQ σ l[i].patch).map ar.cells):=⟨_,rfl⟩
  rw [←hv] at en eu
  have hd0:aJ.length=32:=by decide
  have hdr:List.drop 37 (dig aJ++kU.cells)=[]:=by decide
  have hb2:base≤H.length+(J.length+1):=by omega
  simp [q3,q7,q8,q9,h,ao,aD,en,eu,hd0,hdr,hb2]
  rw [aL (h:=by kernel_rfl)]
  simp [q3,q7,q8,q9,au h (by omega)]
  exact h
 ·have h':i=l.length:=by omega
  subst h'
  rw [List.take_length]
  simp [q3,q7,q8,q9]
def jo (start sz:Nat) (X:ae) (v:AV) (rows:List (List AV)):Prop:=start≤X.length∧aQ start sz (X.drop start) v rows
theorem jo.append {P:Program} {base:Nat} {ts:Array TypeId} {e:TypeId} {xd:TypeDesc} {sz by_ start:Nat} (h0:(ts[0]?).bind P.underlying=some (.slice e)) (h1:(ts[1]?).bind P.underlying=some xd) (hs:br P e=some sz) (hb:bytesOf P e=some by_)
 (hz:(aN P e).map (fun z=>z.cells.length)=some sz) (hp:0<sz) {X:ae} (hY:base≤start) {v x:AV} {rows ys:List (List AV)} (hg:jo start sz X v rows) (hr:∀r∈rows,r.length=sz)
 (hx:cq X xd x=some ys) (hy:∀r∈ys,r.length=sz) (hbound:(rows.length+ys.length)*(by_+1)≤2^45) :
 ∃v' X',bg P base X ts v.denil x=some (v',X')∧jo start sz X' v' (rows++ys)∧fh sz X X'∧(ys≠[]→∃b g l,v'=.sl b g sz 0 l):=by
 obtain ⟨hst,hg⟩:=hg
 have hl:(X.take start).length=start:=by simp;omega
 have hX:X.take start++X.drop start=X:=List.take_append_drop start X
 obtain ⟨v',J',a1,a2,a3⟩:=aQ.appendP (P:=P) (base:=base) (Z:=X.take start) (J:=X.drop start) h0 h1 hs hb hz hp hl.symm (by omega) hg hr (by rw [hX];exact hx) hy hbound
 rw [hX] at a1
 refine ⟨v',X.take start++J',a1,⟨by simp;omega,?_⟩,?_,fun hne=>l5 h0 h1 hs hb hx hne a1⟩
 ·rw [List.drop_append_of_le_length (by omega),List.drop_of_length_le (by omega)];exact a2
 ·have:=a3.head (Z:=X.take start)
  rw [hX] at this
  exact this
theorem jo.app {start sz:Nat} {X:ae} {v:AV} {rows:List (List AV)} (hg:jo start sz X v rows) (L:ae):jo start sz (X++L) v rows:=by
 refine ⟨by have:=hg.1;simp;omega,?_⟩
 rw [List.drop_append_of_le_length hg.1];exact hg.2.app L
theorem jo.setL {start sz j:Nat} {X:ae} {v:AV} {rows:List (List AV)} {blk x:bL} (hg:jo start sz X v rows) (hj:X[j]?=some blk) (hb:∀g rs,blk≠.rows sz g rs):jo start sz (X.set j x) v rows:=by
 refine ⟨by simpa using hg.1,?_⟩
 rcases Nat.lt_or_ge j start with h | h
 ·rw [List.drop_set_of_lt h];exact hg.2
 ·rw [List.drop_set,if_neg (by omega)]
  refine hg.2.setL (blk:=blk) ?_ hb
  rw [List.getElem?_drop];rw [show start+(j-start)=j by omega];exact hj
theorem BL (S:bw C σ) {base b m:Nat} {X:ae} {out:List ar} (hb:ax X b 0 1 0=some [.map m]) (hm:X[m]?=some (.map (jr (iK out)))) (d:ar) (K:AV→ae→Prop) :
 aF Tryz.prog C base (.fn 111 [.ptr b 0 1 0 0]) [.agg d.cells] X K=K (.bool (!dg out d.d)) X:=by
 have hmX:m<X.length:=(List.getElem?_eq_some_iff.1 hm).1
 have hlk:=fun L=>wl S.toaz (X:=X++L) (m:=m) (out:=out) (by rw [List.getElem?_append_left hmX];exact hm) d
 refine aF.eq (eH (S.pureS _ (by decide)) (aj Tryz.func111 rfl (S.prim _ (by decide)) (by simp) (by kernel_rfl) ?_)) K
 unfold Tryz.f111
 simp [aE,bM hb,hlk]
theorem xr (S:bw C σ) {base:Nat} {H:ae} {k:SK} {l:List ar} {f:AV} {q:ar→Bool} (hl:l.length≤2^40) (hf:∀x∈l,∀(base:Nat) (K:AV→ae→Prop),aF Tryz.prog C base f [.agg x.cells] H K=K (.bool (q x)) H) (K:AV→ae→Prop) :
 aF Tryz.prog C base (.fn 82 []) [am k (l.map ar.cells),f] H K=K (.bool (l.any q)) H:=by
 refine aF.eq (eH (S.pureS _ (by decide)) (aj Tryz.func82 rfl (S.prim _ (by decide)) (by simp) (by kernel_rfl) ?_)) K
 unfold Tryz.f82
 have e:=fun K=>DX S (base:=H.length) (H:=H) (k:=k) hl hf K
 have hi:=CJ q l 0
 have ha:l.any q=(l.find? q).isSome:=by rw [Bool.eq_iff_iff,List.any_eq_true,List.find?_isSome]
 simp [aE,e]
 rw [ha,Bool.eq_iff_iff,decide_eq_true_eq,hi]
end Go.Proofs.Ev
namespace Go.Proofs.Ev
open Go.Proofs
variable {C:bD} {σ:aZ}
theorem iv {α β:Type} {f:α→List β} {b:Nat}:∀{l:List α},(∀x∈l,(f x).length≤b)→(l.map f).flatten.length≤b*l.length
 | [],_=>by simp
 | x::l,h=>by
  have h1:=h x (by simp)
  have h2:=iv (l:=l) fun y hy=>h y (by simp [hy])
  simp only [List.map_cons,List.flatten_cons,List.length_append,List.length_cons,Nat.mul_add]
  omega
theorem BF (hd:∀l,(σ.d l).Perm l) {p:aA} (hp:p.Good):(dQ σ p).length≤2^20:=by
 have h1:=(qT (σ.d (cM p))).1
 have h2:=(hd (cM p)).length_eq
 have h3:=iv (f:=fun c=>dR (dr c)) (b:=404) (l:=p.changes) fun c hc=>Nat.le_trans (pq _) (uA c (hp.good hc).on)
 obtain ⟨_,_,h4,_,h5⟩:=hp.head
 have h6:(cM p).length=p.deps.length+((p.changes.map fun c=>dR (dr c)).flatten).length:=by unfold cM;simp
 unfold dQ
 omega
def wu (σ:aZ) (out:List ar) (x:ag):Bool:=!dg out x.id.d&&gb out (dQ σ x.patch)
theorem Es (S:bw C σ) {base b3 b4 gm m:Nat} {X:ae} {s:List ag} {out:List ar} (hs:cr s) (h3:ax X b3 0 1 0=some [.map gm]) (hgm:X[gm]?=some (.map (jr (fA σ s)))) (h4:ax X b4 0 1 0=some [.map m]) (hm:X[m]?=some (.map (jr (iK out))))
 {x:ag} (hx:x∈s) (K:AV→ae→Prop) :
 aF Tryz.prog C base (.fn 110 [.ptr b4 0 1 0 0,.ptr b3 0 1 0 0]) [.agg x.cells] X K=K (.bool (wu σ out x)) X:=by
 have hmX:m<X.length:=(List.getElem?_eq_some_iff.1 hm).1
 have hgX:gm<X.length:=(List.getElem?_eq_some_iff.1 hgm).1
 have hlk:=fun L=>wl S.toaz (X:=X++L) (m:=m) (out:=out) (by rw [List.getElem?_append_left hmX];exact hm) x.id
 obtain ⟨j,hj⟩:=Ey (σ:=σ) hs.2.1 hx
 have hlg:=fun L=>BD S.toaz (X:=X++L) (m:=gm) (l:=fA σ s) (by rw [List.getElem?_append_left hgX];exact hgm) x.id hj
 have hnl:=BF S.permD (hs.1 x hx)
 refine aF.eq (eH (S.pureS _ (by decide)) (aj Tryz.func110 rfl (S.prim _ (by decide)) (by simp) (by kernel_rfl) ?_)) K
 unfold Tryz.f110
 have ec:=fun K=>xr S (base:=X.length) (H:=X++[.rows 37 0 [x.cells]]) (k:=if cM x.patch=[] then .exact else .loose) (l:=dQ σ x.patch) (f:=.fn 111 [.ptr b4 0 1 0 0]) (q:=fun d=>!dg out d.d) (by omega)
  (fun d _ base K=>BL S (bM h4 _) (by rw [List.getElem?_append_left hmX];exact hm) d K) K
 have hall:(dQ σ x.patch).any (fun d=>!dg out d.d) = !gb out (dQ σ x.patch):=by
  rw [gb,Bool.eq_iff_iff];simp
 rw [hall] at ec
 obtain ⟨kk,hkk⟩:∃kk,kk=(if cM x.patch=[] then SK.exact else SK.loose):=⟨_,rfl⟩
 rw [←hkk] at ec hlg
 unfold wu
 cases hd:dg out x.id.d with
 | true=>simp [aE,an,bM h3,bM h4,hlk,hd]
 | false=>simp [aE,an,bM h3,bM h4,hlk,hlg,hd,ec]
def cn (σ:aZ) (s:List ag):Nat→List ar→List ar
 | 0,out=>out
 | n+1,out=>match s.find? (wu σ out) with | some x=>cn σ s n (out++[x.id]) | none=>out
theorem jo.freeze {start sz d:Nat} {X:ae} {v:AV} {rows:List (List AV)} (hg:jo start sz X v rows) (hc:AV.closedss rows=true) (hv:(rows=[]∧v=.nils)∨(rows≠[]∧∃b g l,v=.sl b g sz 0 l)):aI X start (d+1) v=some (am (gO rows) rows):=by
 rcases hv with ⟨h0,h1⟩ | ⟨h0,b,g,l,h1⟩
 ·rw [h0,h1];simp [gO,am]
 ·have hk:gO rows=.loose:=by unfold gO;cases rows with | nil=>exact absurd rfl h0 | cons _ _=>rfl
  rcases hg.2 with ⟨_,h2⟩ | h2 | ⟨b',g',h2,h3⟩
  ·rw [h1] at h2;cases h2
  ·rw [h1] at h2;cases h2
  ·rw [List.getElem?_drop] at h3
   rw [h2,dW h3 (by omega) hc,hk]
   cases rows<;>rfl
structure yA (σ:aZ) (s:List ag) (st b3 b4 gm m:Nat) (out:List ar) (v:AV) (X:ae):Prop where
 h3:ax X b3 0 1 0=some [.map gm]
 hg:X[gm]?=some (.map (jr (fA σ s)))
 h4:ax X b4 0 1 0=some [.map m]
 hm:X[m]?=some (.map (jr (iK out)))
 ne:gm≠m
 low:st≤m
 grow:jo st 32 X v (out.map ar.cells)
 v:(out=[]∧v=.nils)∨(out≠[]∧∃b g l,v=.sl b g 32 0 l)
theorem vK {X X':ae} {b sz:Nat} {r:List AV} (h:ax X b 0 1 0=some r) (hs:fh sz X X') (hne:sz≠1):ax X' b 0 1 0=some r:=by
 unfold ax at h ⊢
 cases hb:X[b]? with
 | none=>rw [hb] at h;cases h
 | some blk =>
  rw [hb] at h
  cases blk with
  | rows e g rs =>
   simp only at h
   split at h
   ·rename_i hc
    obtain ⟨rfl,rfl⟩:=hc
    rw [hs b _ hb (by intro g' rs' h';cases h';exact hne rfl)]
    simpa using h
   ·cases h
  | _=>cases h
theorem pT {X:ae} {b m:Nat} {r:List AV} {es:List (AV×AV)} {x:bL} (h:ax X b 0 1 0=some r) (hm:X[m]?=some (.map es)):ax (X.set m x) b 0 1 0=some r:=by
 unfold ax at h ⊢
 rw [List.getElem?_set_ne]
 ·exact h
 ·rintro rfl
  rw [hm] at h;cases h
set_option maxRecDepth 100000 in
set_option maxHeartbeats 4000000 in
theorem ro (S:bw C σ) (s0:List ag) (k:SK) (hs:cr s0):b8 Tryz.prog C 55 [] [am k (s0.map ag.cells)] (am (gO (cn σ s0 s0.length [])) ((cn σ s0 s0.length []).map ar.cells)):=by
 refine aw (S.pureS _ (by decide)) fun H=>aj Tryz.func55 rfl (S.prim _ (by decide)) (by simp) (by kernel_rfl) ?_
 unfold Tryz.f55
 obtain ⟨J,eg⟩:=Gv S s0 k hs (base:=H.length) (H:=H) (Nat.le_refl _)
 have hlen:=hs.2.2
 refine cut (fun s H'=>s 0=am k (s0.map ag.cells)∧H'=H) ?_ ?_
 ·simp [aE]
 rintro s X ⟨q0,rfl⟩
 refine cut (fun s H'=>s 0=am k (s0.map ag.cells)∧s 3=.ptr (X.length+(J.length+1)) 0 1 0 0∧H'=X++.map (jr (fA σ s0))::(J++[.rows 1 0 [[.map X.length]]])) ?_ ?_
 ·simp [q0,eg,ao]
  exact ⟨rfl,by decide,rfl,rfl⟩
 rintro s H' ⟨q0,q3,rfl⟩
 refine cut (fun s H'=>s 0=am k (s0.map ag.cells)∧s 3=.ptr (X.length+(J.length+1)) 0 1 0 0∧s 4=.ptr (X.length+(J.length+3)) 0 1 0 0∧H'=X++.map (jr (fA σ s0))::(J++[.rows 1 0 [[.map X.length]],.map [],.rows 1 0 [[.map (X.length+(J.length+2))]]])) ?_ ?_
 ·simp [q0,q3,ao]
  exact ⟨rfl,by decide,rfl,rfl⟩
 rintro s H' ⟨q0,q3,q4,rfl⟩
 obtain ⟨b3,hb3⟩:∃b3,b3=X.length+(J.length+1):=⟨_,rfl⟩
 obtain ⟨b4,hb4⟩:∃b4,b4=X.length+(J.length+3):=⟨_,rfl⟩
 obtain ⟨m,hm⟩:∃m,m=X.length+(J.length+2):=⟨_,rfl⟩
 have hst0:yA σ s0 X.length b3 b4 X.length m [] .nils (X++.map (jr (fA σ s0))::(J++[.rows 1 0 [[.map X.length]],.map [],.rows 1 0 [[.map (X.length+(J.length+2))]]])):=by
  refine ⟨?_,by simp,?_,?_,by omega,by omega,⟨by simp,.inl ⟨rfl,rfl⟩⟩,.inl ⟨rfl,rfl⟩⟩
  ·rw [hb3];simp [ax]
  ·rw [hb4,hm];simp [ax]
  ·rw [hm];simp [jr,iK]
 rw [←hb3] at q3
 rw [←hb4] at q4
 obtain ⟨st,hst⟩:∃st,st=X.length:=⟨_,rfl⟩
 rw [←hst] at hst0
 obtain ⟨X1,hX1⟩:∃X1,X1=(X++.map (jr (fA σ s0))::(J++[.rows 1 0 [[.map st]],.map [],.rows 1 0 [[.map (st+(J.length+2))]]])):=⟨_,rfl⟩
 rw [←hst]
 rw [←hX1] at hst0 ⊢
 clear hX1 hm hb3 hb4 eg
 refine cut (fun s X=>s 0=am k (s0.map ag.cells)∧s 3=.ptr b3 0 1 0 0∧s 4=.ptr b4 0 1 0 0∧yA σ s0 st b3 b4 st m [] (s 5) X) ?_ ?_
 ·simp [q0,q3,q4,hst0]
 clear hst0 q0 q3 q4
 rintro s X ⟨q0,q3,q4,hO⟩
 refine cut (fun s X=>∃b3 b4 gm m,yA σ s0 st b3 b4 gm m (cn σ s0 s0.length []) (s 5) X) ?_ ?_
 rotate_left
 ·rintro s X ⟨b3,b4,gm,m,hO⟩
  simp
  have hf:=hO.grow.freeze (d:=2) (aH ar.closed _) (by simpa using hO.v)
  have hk:gO ((cn σ s0 s0.length []).map ar.cells)=gO (cn σ s0 s0.length []):=by unfold gO;cases cn σ s0 s0.length []<;>rfl
  rw [hk] at hf
  exact hf
 simp [q0,q3,q4]
 refine ay s0.length (fun i s X=>s 0=am k (s0.map ag.cells)∧s 3=.ptr b3 0 1 0 0∧s 4=.ptr b4 0 1 0 0∧s 11=.int .i64 s0.length∧s 12=.int .i64 i∧∃out,cn σ s0 s0.length []=cn σ s0 (s0.length-i) out∧out.length=i∧yA σ s0 st b3 b4 st m out (s 5) X) ?_ ?_
 ·exact ⟨q0,q3,q4,rfl,rfl,[],rfl,rfl,hO⟩
 clear hO q0 q3 q4
 rintro i s X ⟨q0,q3,q4,q11,q12,out,ho,hol,hO⟩ hi
 by_cases h:i<s0.length
 rotate_left
 ·have h':i=s0.length:=by omega
  rw [h',Nat.sub_self,cn] at ho
  subst h'
  simp [q0,q3,q4,q11,q12]
  exact ⟨b3,b4,st,m,ho▸hO⟩
 rw [show s0.length-i=(s0.length-(i+1))+1 by omega,cn] at ho
 have e:=fun (K:AV→ae→Prop)=>wd S (base:=st) (H:=X) (k:=k) (l:=s0) (f:=.fn 110 [.ptr b4 0 1 0 0,.ptr b3 0 1 0 0]) (q:=wu σ out) (by omega) (fun x hx base K=>Es S hs hO.h3 hO.hg hO.h4 hO.hm hx K) K
 obtain ⟨i1,i2⟩:=jR (wu σ out) s0 0
 cases hf:s0.find? (wu σ out) with
 | none =>
  rw [i2 hf] at e
  rw [hf] at ho
  simp [q0,q3,q4,q11,q12,h,e]
  exact ⟨b3,b4,st,m,ho▸hO⟩
 | some x =>
  obtain ⟨j,h1,h2⟩:=i1 x hf
  rw [Nat.zero_add] at h1
  rw [h1] at e
  rw [hf] at ho
  have hj:j<s0.length:=(List.getElem?_eq_some_iff.1 h2).1
  have hjx:s0[j]=x:=by rw [List.getElem?_eq_getElem hj] at h2;exact Option.some.inj h2
  have hok:=List.find?_some hf
  unfold wu at hok
  simp only [Bool.and_eq_true,Bool.not_eq_true'] at hok
  have eu:=Ie S.toaz (base:=st) hO.low hO.hm x.id hok.1
  have hmX:m<X.length:=(List.getElem?_eq_some_iff.1 hO.hm).1
  have hgr:=hO.grow.setL (x:=.map (jr (iK (out++[x.id])))) hO.hm (by intro g rs h;cases h)
  obtain ⟨v',X',ha,hg',hsty,hsl⟩:=hgr.append (P:=Tryz.prog) (base:=st) (ts:=#[34,34]) (e:=25) (xd:=.slice 25) (x:=.lst [x.id.cells] true) (ys:=[x.id.cells])
   (by simp) (by simp) mD AL (by simp [show aJ.length=32 by decide]) (by decide) (Nat.le_refl _) (fun r hr=>by obtain ⟨y,_,rfl⟩:=List.mem_map.1 hr;simp) rfl (by simp) (by simp;omega)
  have hO':yA σ s0 st b3 b4 st m (out++[x.id]) v' X':=by
   refine ⟨vK (pT hO.h3 hO.hm) hsty (by decide),?_,vK (pT hO.h4 hO.hm) hsty (by decide),?_,hO.ne,hO.low,by simpa using hg',.inr ⟨by simp,hsl (by simp)⟩⟩
   ·exact hsty _ _ (by rw [List.getElem?_set_ne (Ne.symm hO.ne)];exact hO.hg) (by intro g rs h;cases h)
   ·exact hsty _ _ (by rw [List.getElem?_set_self hmX]) (by intro g rs h;cases h)
  have hd0:aJ.length=32:=by decide
  have hnj:¬(j:Int)<0:=by omega
  obtain ⟨h4',h3'⟩:=And.intro hO.h4 hO.h3
  simp [q0,q3,q4,q11,q12,h,e,hnj,hj,hjx,h4',eu]
  rw [aL (h:=by kernel_rfl)]
  simp [q0,q3,q4,q11,q12,hj,hjx,ah,aq,hd0,ha,au h (by omega)]
  exact ⟨h,out++[x.id],ho,by simp [hol],hO'⟩
theorem uG (S:bw C σ) (l:List ar) (k:SK) (d:ar) (hl:l.length≤2^40):b8 Tryz.prog C 112 [] [am k (l.map ar.cells),.agg d.cells] (.bool (dg l d.d)):=by
 have key:b8 Tryz.prog C 173 [] [am k (l.map ar.cells),.agg d.cells] (.int .i64 (jt (fun x=>decide (x.d=d.d)) l 0)):=by
  refine aw (S.pureS _ (by decide)) fun H=>aj Tryz.func173 rfl (S.prim _ (by decide)) (by simp) (by kernel_rfl) ?_
  unfold Tryz.f173
  have e:=jL S.toaz
  simp [aE]
  refine ay l.length (fun i s H'=>s 0=am k (l.map ar.cells)∧s 3=.ptr H.length 0 32 0 0∧s 7=.int .i64 l.length∧s 8=.int .i64 i∧H'=H++[.rows 32 0 [d.cells]]∧jt (fun x=>decide (x.d=d.d)) l 0=jt (fun x=>decide (x.d=d.d)) (l.drop i) i) ?_ ?_
  ·exact ⟨rfl,rfl,rfl,rfl,rfl,rfl⟩
  rintro i s H' ⟨q0,q3,q7,q8,rfl,hc⟩ hi
  by_cases h:i<l.length
  ·rw [List.drop_eq_getElem_cons h,jt] at hc
   by_cases hq:l[i].d=d.d
   ·rw [if_pos (by simpa using hq)] at hc
    simp [q0,q3,q7,q8,h,hc,e,hq]
   ·rw [if_neg (by simpa using hq)] at hc
    have hq':¬d.d=l[i].d:=fun h'=>hq h'.symm
    simp [q0,q3,q7,q8,h,hc,e,hq',au h (by omega)]
  ·have h':i=l.length:=by omega
   subst h'
   rw [List.drop_length,jt] at hc
   simp [q0,q3,q7,q8,hc]
 refine aw (S.pureS _ (by decide)) fun H=>aj Tryz.func112 rfl (S.prim _ (by decide)) (by simp) (by kernel_rfl) ?_
 unfold Tryz.f112
 have hi:=CJ (fun x:ar=>decide (x.d=d.d)) l 0
 have ha:dg l d.d=(l.find? fun x=>decide (x.d=d.d)).isSome:=by rw [dg,Bool.eq_iff_iff,List.any_eq_true,List.find?_isSome]
 have ek:=key.eq
 simp [aE,ek]
 rw [ha,Bool.eq_iff_iff,decide_eq_true_eq,hi]
end Go.Proofs.Ev
namespace Go.Proofs.Ev
open Go.Proofs
variable {C:bD} {σ:aZ}
def cL (l:List ag) (ids:List ar):List ag:=l.filter fun x=>dg ids x.id.d
def PF (H:ae) (l:List ag) (v:AV) (X:ae):Prop:=jo H.length 37 X v (l.map ag.cells)∧((l=[]∧v=.nils)∨(l≠[]∧∃b g n,v=.sl b g 37 0 n))
theorem G8 (S:bw C σ) (l:List ag) (ids:List ar) (k k2:SK) (hl:l.length≤2^20) (hi:ids.length≤2^20):b8 Tryz.prog C 56 [] [am k (l.map ag.cells),am k2 (ids.map ar.cells)] (am (gO (cL l ids)) ((cL l ids).map ag.cells)):=by
 refine aw (S.pureS _ (by decide)) fun H=>aj Tryz.func56 rfl (S.prim _ (by decide)) (by simp) (by kernel_rfl) ?_
 unfold Tryz.f56
 simp [aE]
 refine ay l.length (fun i s X=>s 1=am k2 (ids.map ar.cells)∧s 8=am k (l.map ag.cells)∧s 9=.int .i64 l.length∧s 10=.int .i64 i∧PF H (cL (l.take i) ids) (s 5) X) ?_ ?_
 ·exact ⟨rfl,rfl,rfl,rfl,⟨Nat.le_refl _,.inl ⟨rfl,rfl⟩⟩,.inl ⟨rfl,rfl⟩⟩
 rintro i s X ⟨q1,q8,q9,q10,hg,hv⟩ hi'
 by_cases h:i<l.length
 ·have ec:=(uG S ids k2 l[i].id (by omega)).eq
  have hs:cL (l.take (i+1)) ids=cL (l.take i) ids++(if dg ids l[i].id.d then [l[i]] else []):=by
   unfold cL;rw [List.take_add_one,List.getElem?_eq_getElem h,List.filter_append]
   cases hh:dg ids l[i].id.d<;>simp [hh]
  have hd0:aJ.length=32:=by decide
  have hdr:List.drop 37 (dig aJ++kU.cells)=[]:=by decide
  have hlow:=hg.1
  have hkl:(cL (l.take i) ids).length≤2^20:=by
   have:=List.length_filter_le (fun x:ag=>dg ids x.id.d) (l.take i)
   have h2:(l.take i).length≤l.length:=by simp;omega
   unfold cL;omega
  cases hh:dg ids l[i].id.d with
  | false =>
   rw [hh,if_neg (by decide),List.append_nil] at hs
   simp [q1,q8,q9,q10,h,ao,aD,ec,hh,hd0,hdr,hlow,au h (by omega)]
   rw [hs]
   exact ⟨hg.app _,hv⟩
  | true =>
   rw [hh,if_pos rfl] at hs
   obtain ⟨v',X',ha,hg',_,hsl⟩:=(hg.app [.rows 37 0 [l[i].cells]]).append (P:=Tryz.prog) (base:=H.length) (ts:=#[23,23]) (e:=96) (xd:=.slice 96) (x:=.lst [l[i].cells] true) (ys:=[l[i].cells])
    (by simp) (by simp) J9 Lo (by simp [hd0]) (by decide) (Nat.le_refl _) (fun r hr=>by obtain ⟨y,_,rfl⟩:=List.mem_map.1 hr;simp) rfl (by simp) (by simp;omega)
   simp [q1,q8,q9,q10,h,ao,aD,ec,hh,hd0,hdr,hlow,ah,aq,ha,au h (by omega)]
   rw [hs]
   exact ⟨by simpa using hg',.inr ⟨by simp,hsl (by simp)⟩⟩
 ·have h':i=l.length:=by omega
  subst h'
  rw [List.take_length] at hg hv
  have hf:=hg.freeze (d:=2) (aH ag.closed _) (by simpa using hv)
  have hk:gO ((cL l ids).map ag.cells)=gO (cL l ids):=by unfold gO;cases cL l ids<;>rfl
  rw [hk] at hf
  simp [q1,q8,q9,q10]
  exact hf
def gp (σ:aZ) (s:List ag) (id:aC):Option aG:=if fU s id.d then (bK σ (bY s id.d)).find? (fun x=>aB x.id id) else none
theorem Gj (S:bw C σ) {base b:Nat} {H:ae} {id:aC} (hg:ax H b 0 33 0=some id.cells) (x:aG) (K:AV→ae→Prop) :
 aF Tryz.prog C base (.fn 107 [.ptr b 0 33 0 0]) [.agg x.cells] H K=K (.bool (aB x.id id)) H:=by
 refine aF.eq (eH (S.pureS _ (by decide)) (aj Tryz.func107 rfl (S.prim _ (by decide)) (by simp) (by kernel_rfl) ?_)) K
 unfold Tryz.f107
 have e:=gZ S.toaz
 simp [aE,bM hg,e]
theorem bX {s:List ag} (hs:cr s) {d:List Nat} (h:fU s d=true):(bY s d).Good∧∃x∈s,x.id.d=d∧x.patch=bY s d:=by
 unfold fU at h
 unfold bY
 cases hf:s.find? (fun x=>decide (x.id.d=d)) with
 | none=>rw [hf] at h;cases h
 | some x =>
  have hm:=List.mem_of_find?_eq_some hf
  exact ⟨hs.1 x hm,x,hm,by simpa using List.find?_some hf,rfl⟩
theorem gc {p:aA} (hp:p.Good):(bK σ p).length≤90000:=by rw [bK,List.length_map];exact hp.n
set_option maxHeartbeats 2000000 in
theorem zX (S:bw C σ) (l:List ag) (k:SK) (id:aC) (hl:cr l):b8 Tryz.prog C 53 [] [am k (l.map ag.cells),.agg id.cells] (.tup [.agg ((gp σ l id).getD bV).cells,.bool (gp σ l id).isSome]):=by
 refine aw (S.pureS _ (by decide)) fun H=>aj Tryz.func53 rfl (S.prim _ (by decide)) (by simp) (by kernel_rfl) ?_
 unfold Tryz.f53
 have eg:=(uB S l k id.dv hl.2.2).eq
 have hdv:id.dv.cells=dig id.d:=rfl
 have hdd:id.dv.d=id.d:=rfl
 rw [hdv,hdd] at eg
 have hfin:∀(X:ae) (x:aG) (b:Bool),aI X H.length 3 (.tup [.agg x.cells,.bool b])=some (.tup [.agg x.cells,.bool b]):=fun X x b=>bb (ak (v:=.agg _) (aG.closed _)) (by simp)
 cases hh:fU l id.d with
 | false =>
  have hf:gp σ l id=none:=by unfold gp;rw [hh];rfl
  rw [hh] at eg
  simp [aE,eg,ao,aD,hf]
  exact hfin _ _ _
 | true =>
  obtain ⟨hpg,_⟩:=bX hl hh
  have ea:=(lM S.tofg (bY l id.d) hpg).eq
  have hal:=gc (σ:=σ) hpg
  rw [hh] at eg
  obtain ⟨p,hp⟩:∃p,p=bY l id.d:=⟨_,rfl⟩
  rw [←hp] at eg ea hal
  have hf:gp σ l id=(bK σ p).find? (fun x=>aB x.id id):=by unfold gp;rw [hh,if_pos rfl,hp]
  obtain ⟨L,hL⟩:∃L,L=bK σ p:=⟨_,rfl⟩
  rw [←hL] at ea hf hal
  obtain ⟨i1,i2⟩:=jR (fun x:aG=>aB x.id id) L 0
  have hsl:AV.lst (L.map aG.cells) false=am .loose (L.map aG.cells):=by cases L<;>rfl
  have ei:=fun (K:AV→ae→Prop)=>DW S (base:=H.length) (H:=H++[.rows 33 0 [id.cells],.rows 172 0 [bV.cells],.rows 5 0 [p.cells]]) (k:=.loose) (l:=L) (f:=.fn 107 [.ptr H.length 0 33 0 0]) (q:=fun x=>aB x.id id) (by omega) (fun x _ base K=>Gj S (by simp) x K) K
  rw [←hsl] at ei
  rw [hf]
  cases hfd:L.find? (fun x=>aB x.id id) with
  | none =>
   rw [i2 hfd] at ei
   simp [aE,eg,ea,ei,ao,aD]
   exact hfin _ _ _
  | some x =>
   obtain ⟨j,h1,h2⟩:=i1 x hfd
   rw [Nat.zero_add] at h1
   rw [h1] at ei
   have hj:j<L.length:=(List.getElem?_eq_some_iff.1 h2).1
   have hjx:L[j]=x:=by rw [List.getElem?_eq_getElem hj] at h2;exact Option.some.inj h2
   simp [aE,eg,ea,ei,ao,aD,hj,hjx,show ¬(j:Int)<0 by omega]
   exact hfin _ _ _
structure ba (C:bD) (σ:aZ):Prop extends bw C σ where
 pureT:∀f,f∈[21,58,6,30]→C.pure f=true
 plainT:∀f,f∈[174,113,255,256,22,23,57]→C.pure f=false∧C.frz f=false
def ly (σ:aZ) (s:List ag) (id:aC) (k:Int):Int:=match gp σ s id with | none=>7 | some x=>if x.kind=k then 0 else 8
theorem nW (S:ba C σ) (l:List ag) (k:SK) (id:aC) (kd:Int) (hl:cr l):b8 Tryz.prog C 21 [] [am k (l.map ag.cells),.agg id.cells,.int .i64 kd] (.int .i64 (ly σ l id kd)):=by
 refine aw (S.pureT _ (by decide)) fun H=>aj Tryz.func21 rfl (S.prim _ (by decide)) (by simp) (by kernel_rfl) ?_
 unfold Tryz.f21 ly
 have e:=(zX S.tobw l k id hl).eq
 cases hf:gp σ l id with
 | none =>
  rw [hf] at e
  simp only [Option.getD_none,Option.isSome_none] at e
  simp [aE,e,ao,aD]
 | some x =>
  rw [hf] at e
  simp only [Option.getD_some,Option.isSome_some] at e
  by_cases hk:x.kind=kd
  ·simp [aE,e,ao,aD,hk]
  ·simp [aE,e,ao,aD,hk]
end Go.Proofs.Ev
namespace Go.Proofs.Ev
open Go.Proofs
noncomputable def zI (p:Nat→List AV→ae→Option (AV×ae)) (f:FuncId):Option (Nat→List AV→ae→Option (AV×ae)) :=
 if f=156 then some uu else
 if f=406 then some ut else
 if f=349 then some BO else
 if f=137 then some zE else
 if f=335 then some Ew else
 if f=114 then some (oA Im df 96) else
 if f=143 then some (oA vg (fun a b=>bQ a.d b.d) 81) else
 if f=140 then some pt else
 if f=144 then some nG else
 if f=5 then some p else
 none
def pureT:List FuncId:=[118,75,36,268,269,128,270,18,190,191,131,121,329,192,327,266,265,177,267,328,383,179,120,119,67,276,332,330,331,274,275,184,185,180,272,273,181,123,71,73,271,189,188,186,124,187,125,72,35,74,39,37,32,25,69,68,33,127,132,126,129,130,76,40,16,15,34,4,70,122,200,134,201,287,199,136,78,81,346,387,347,283,285,142,338,339,343,336,337,340,341,342,344,345,277,197,193,233,161,96,384,334,279,278,194,210,204,205,206,207,208,209,281,139,77,41,176,117,65,83,109,138,82,106,112,173,64,116,55,110,111,56,53,107,21,58,6,30,164,99,162,10,27,115,59,24,62,61,26,66,31,7,29,9,11,12,14,13,8]
def LH:List FuncId:=[178,182,60,38,286,195,5]
def Bz (t:TypeId):Option (List LK):=if t=25 then some (List.replicate 32 (.int .u8)) else if t=27 then some (List.replicate 32 (.int .u8)++[.int .i64]) else if t=86 then some (List.replicate 32 (.int .u8)++[.int .i64]++(List.replicate 32 (.int .u8)++[.int .i64])++[.str]) else if t=62 then some ([.int .i64]++List.replicate 32 (.int .u8)++(List.replicate 32 (.int .u8)++[.int .i64])) else none
noncomputable def dF (p:Nat→List AV→ae→Option (AV×ae)):bD:=⟨zI p,fun f=>decide (f∈pureT),fun f=>decide (f∈LH),Bz⟩
noncomputable def qC:aZ:=⟨iS df,iS fun a b:ar=>bQ a.d b.d⟩
variable {p:Nat→List AV→ae→Option (AV×ae)} {N:gH}
theorem BP {f:FuncId} (h:f∉[156,406,349,137,335,114,143,140,144,5]):zI p f=none:=by
 simp only [List.mem_cons,List.not_mem_nil,or_false,not_or] at h
 obtain ⟨h0,h1,h2,h3,h4,h5,h6,h7,h8,h9⟩:=h
 unfold zI
 rw [if_neg h0,if_neg h1,if_neg h2,if_neg h3,if_neg h4,if_neg h5,if_neg h6,if_neg h7,if_neg h8,if_neg h9]
theorem jG {L:List FuncId} (h:(L.all fun f=>decide (f∈pureT))=true):∀f,f∈L→(dF p).pure f=true:=fun f hf=>List.all_eq_true.1 h f hf
theorem FB {L:List FuncId} (h:(L.all fun f=>!decide (f∈pureT)&&decide (f∈LH))=true):∀f,f∈L→(dF p).pure f=false∧(dF p).frz f=true:=fun f hf=>by
 have h1:=List.all_eq_true.1 h f hf
 rw [Bool.and_eq_true,Bool.not_eq_true'] at h1
 exact h1
theorem sX {L:List FuncId} (h:(L.all fun f=>!decide (f∈pureT)&&!decide (f∈LH))=true):∀f,f∈L→(dF p).pure f=false∧(dF p).frz f=false:=fun f hf=>by
 have h1:=List.all_eq_true.1 h f hf
 rw [Bool.and_eq_true,Bool.not_eq_true',Bool.not_eq_true'] at h1
 exact h1
theorem Jt:(dF p).prim 156=some uu:=rfl
theorem Ju:(dF p).prim 406=some ut:=rfl
theorem Jv:(dF p).prim 349=some BO:=rfl
theorem Jw:(dF p).prim 137=some zE:=rfl
theorem Jx:(dF p).prim 335=some Ew:=rfl
theorem CY:(dF p).prim 114=some (oA Im df 96):=rfl
theorem CZ:(dF p).prim 143=some (oA vg (fun a b=>bQ a.d b.d) 81):=rfl
theorem Jy:(dF p).prim 140=some pt:=rfl
theorem C0:(dF p).prim 144=some nG:=rfl
theorem Jz:(dF p).prim 5=some p:=rfl
theorem DY:az (dF p):={
 pure:=jG (by kernel_rfl)
 prim:=fun f hf=>BP (by intro h;apply hf;revert h;simp only [List.mem_cons,List.not_mem_nil,or_false];grind)
 kDig:=rfl
 kId:=rfl }
theorem A9:dJ (dF p):={
 toaz:=DY
 pure2:=jG (by kernel_rfl)
 frz2:=FB (by kernel_rfl) }
theorem Ba:fY (dF p):={
 todJ:=A9
 pure3:=jG (by kernel_rfl) }
theorem Bb:dZ (dF p):={
 tofY:=Ba
 pure4:=jG (by kernel_rfl)
 frz4:=FB (by kernel_rfl)
 plain4:=sX (by kernel_rfl) }
theorem Bc:db (dF p):={
 todZ:=Bb
 pure5:=jG (by kernel_rfl) }
theorem Bd:d3 (dF p):={
 todb:=Bc
 pure6:=jG (by kernel_rfl) }
theorem Be:cW (dF p):={
 tod3:=Bd
 frz7:=FB (by kernel_rfl)
 pure7:=jG (by kernel_rfl) }
theorem Bf:aV (dF p):={
 tocW:=Be
 pure8:=jG (by kernel_rfl) }
theorem Bg:eJ (dF p):={
 toaV:=Bf
 pureA:=jG (by kernel_rfl)
 plainA:=sX (by kernel_rfl) }
theorem Bh:d4 (dF p):={
 toeJ:=Bg
 pureD:=jG (by kernel_rfl)
 frzD:=FB (by kernel_rfl)
 plainD:=sX (by kernel_rfl)
 copy:=fun hb hg ha K=>DE Ju rfl rfl hb hg ha K
 str:=fun hb hg hn hl hv=>HP Jv rfl rfl hb hg hn hl hv
 itoa:=fun n l1 l2 base H K=>DZ Jt rfl rfl n l1 l2 base H K }
theorem Bi:bN (dF p):={
 tod4:=Bh
 pureF:=jG (by kernel_rfl)
 plainF:=sX (by kernel_rfl) }
theorem Bj:fZ (dF p):={
 tobN:=Bi
 pureG:=jG (by kernel_rfl) }
theorem Bk:jV (dF p):={
 tofZ:=Bj
 pureH:=jG (by kernel_rfl)
 cmpB:=fun hl hx hy ha hb K=>F2 Jw rfl rfl hl hx hy ha hb K }
theorem Bl:fD (dF p):={
 tojV:=Bk
 pureI:=jG (by kernel_rfl) }
theorem Bm:gP (dF p):={
 tofD:=Bl
 pureJ:=jG (by kernel_rfl)
 plainJ:=sX (by kernel_rfl)
 idxB:=fun s c=>Gx Jx rfl rfl s c }
theorem Bn:iF (dF p):={
 togP:=Bm
 pureK:=jG (by kernel_rfl) }
theorem Bo:de (dF p):={
 toiF:=Bn
 pureL:=jG (by kernel_rfl)
 plainL:=sX (by kernel_rfl) }
theorem Bp:lg (dF p):={
 tode:=Bo
 frzM:=FB (by kernel_rfl) }
theorem Bq:ga (dF p):={
 tolg:=Bp
 pureN:=jG (by kernel_rfl)
 plainN:=sX (by kernel_rfl) }
theorem Br:gQ (dF p):={
 toga:=Bq
 plainO:=sX (by kernel_rfl) }
theorem pi:fc (dF p):={
 togQ:=Br
 pureP:=jG (by kernel_rfl) }
theorem uj:fg (dF p) qC:={
 tofc:=pi
 permI:=ky pE
 sortI:=fun hl hb hg K=>dY CY rfl rfl (zF Im aC.cells_inj df _ hb hl hg) K
 sortI0:=fun K=>dY CY rfl rfl rfl K }
theorem uk:jW (dF p) qC:={
 tofg:=uj
 permD:=ky n9
 sortD:=fun hl hb hg K=>dY CZ rfl rfl (zF vg ar.cells_inj _ _ hb hl hg) K
 sortD0:=fun K=>dY CZ rfl rfl rfl K
 cloneD:=fun hl K=>AU Jy rfl rfl hl K
 compD:=fun hl hb hg=>⟨_,fun K=>dY C0 rfl rfl (AX hb hg hl) K⟩
 compD0:=fun K=>dY C0 rfl rfl (yR _ _) K }
theorem Bs:bw (dF p) qC:={
 tojW:=uk
 pureS:=jG (by kernel_rfl)
 plainS:=sX (by kernel_rfl) }
theorem pj:ba (dF p) qC:={
 tobw:=Bs
 pureT:=jG (by kernel_rfl)
 plainT:=sX (by kernel_rfl) }
theorem D2:∀t ks,Bz t=some ks→da Tryz.prog 20 t=some ks∧Tryz.prog.eqGuardType Tryz.prog.depth t=false∧be Tryz.prog t=some true:=by
 intro t ks h
 unfold Bz at h
 split at h
 ·rename_i ht;subst ht;cases h;exact ⟨by kernel_rfl,by kernel_rfl,by kernel_rfl⟩
 ·split at h
  ·rename_i ht;subst ht;cases h;exact ⟨by kernel_rfl,by kernel_rfl,by kernel_rfl⟩
  ·split at h
   ·rename_i ht;subst ht;cases h;exact ⟨by kernel_rfl,by kernel_rfl,by kernel_rfl⟩
   ·split at h
    ·rename_i ht;subst ht;cases h;exact ⟨by kernel_rfl,by kernel_rfl,by kernel_rfl⟩
    ·cases h
theorem HL (hT:fS Tryz.prog N) (hG:jk N) (hL:kW N) (hp:gL Tryz.prog N 5 p):(dF p).Sound Tryz.prog N:={
 fits:=⟨D2⟩
 mixed:=by kernel_rfl
 tag:=hT
 names:=qm
 prim f q h:=by
  change zI p f=some q at h
  unfold zI at h
  split at h
  ·rename_i hf;subst hf;cases h;exact CL hL
  split at h
  ·rename_i hf;subst hf;cases h;exact IL hG
  split at h
  ·rename_i hf;subst hf;cases h;exact Mo hG
  split at h
  ·rename_i hf;subst hf;cases h;exact F3 N
  split at h
  ·rename_i hf;subst hf;cases h;exact LS N
  split at h
  ·rename_i hf;subst hf;cases h;exact HK hT
  split at h
  ·rename_i hf;subst hf;cases h;exact HJ hT
  split at h
  ·rename_i hf;subst hf;cases h;exact FZ hT
  split at h
  ·rename_i hf;subst hf;cases h;exact AY hT
  split at h
  ·rename_i hf;subst hf;cases h;exact hp
  cases h }
end Go.Proofs.Ev
