/- Part 23 of the proof that quiltlaw38.BlameHistory returns true: no statement of its own. -/
import Derived.Test.YtkicailcmamaiaaGreatDoorH6
import Derived.Test.YtkicailcmamaiaaGreatDoorH22
set_option linter.all false
namespace Go.Proofs.Ev
variable {P:Program} {C:bD} {N base:Nat}
def F5 (P:Program) (ops:Array Oper) (i p:Nat):Bool:=(List.range ops.size).all fun k=>decide (kI P ops k<2)||((!lp ops k i||decide (k<p))&&(!lp ops i k||decide (p≤k)))
def vS (P:Program) (ops:Array Oper):List (Nat×Nat):=(List.range ops.size).flatMap fun i=>if kI P ops i==1 then ((List.range (ops.size+1)).filter fun p=>F5 P ops i p).map fun p=>(i,p) else []
def LR (acc:List (Sl×ae×AV)) (H:ae) (p:Nat):ae:=match acc[p]? with | some x=>x.2.1 | none=>H
def xl (P:Program) (C:bD) (base:Nat) (ops:Array Oper) (acc:List (Sl×ae×AV)) (H:ae) (ip:Nat×Nat):Prop :=
 match acc[ip.1]?,ops[ip.1]? with
 | some x,some o=>mF P C base ops o x.1 (LR acc H ip.2) fun v _=>v=x.2.2
 | _,_=>False
def mE (P:Program) (C:bD) (N base:Nat) (ops:Array Oper):Nat→List Oper→Sl→ae→List (Sl×ae×AV)→(Sl→ae→Prop)→Prop
 | _,[],s,H,acc,Q=>Q s H∧∀ip∈vS P ops,xl P C base ops acc H ip
 | i,o::l,s,H,acc,Q=>nk N o.dst∧(kI P ops i<2∨sQ ops s o=some true)∧mF P C base ops o s H fun v H'=>mE P C N base ops (i+1) l (pu s o.dst v) H' (acc++[(s,H,v)]) Q
theorem Oy {ops:Array Oper}:∀{os:List Oper} {i:Nat} {s:Sl} {H:ae} {acc:List (Sl×ae×AV)} {Q:Sl→ae→Prop},mE P C N base ops i os s H acc Q→acc.length=i→∀{l:List AV},lV N l s→
 ∃n tr l' s' H' accF,mB P ops (fun o s H=>bF P C n base ops o s H) os l H=some (tr,l',H')∧lV N l' s'∧Q s' H'∧accF.length=i+os.length∧(∀(j:Nat) (x:Sl×ae×AV),acc[j]?=some x→accF[j]?=some x)∧
  (∀(k:Nat) (o:Oper),os[k]?=some o→∃(x:Sl×ae×AV) (lk:List AV),accF[i+k]?=some x∧lV N lk x.1∧(tr.getD k default).s=iJ (looks ops o) lk∧(tr.getD k default).h=x.2.1∧(tr.getD k default).v=x.2.2∧(tr.getD k default).c=mP P ops lk o∧(kI P ops (i+k)<2∨dD ops lk o=some true))∧
  ∀ip∈vS P ops,xl P C base ops accF H' ip
 | [],i,s,H,acc,Q,h,hl,l,hr=>⟨0,[],l,s,H,acc,rfl,hr,h.1,by simpa using hl,fun _ _ h=>h,fun k o h=>by simp at h,h.2⟩
 | o::os,i,s,H,acc,Q,h,hl,l,hr=>by
  unfold mE at h
  obtain ⟨hd,hw,h⟩:=h
  obtain ⟨n,v,H1,h1,h3⟩:=jN h hr
  obtain ⟨m,tr,l',s',H',accF,h4,h5,h6,h7,h8,h9,h10⟩:=Oy h3 (by simp [hl]) (hr.put hd v)
  have e1:bF P C (n+m) base ops o (iJ (looks ops o) l) H=some (v,H1):=by rw [uT];exact im (Nat.le_add_right n m) h1
  have e2:=lO (P:=P) (g:=fun o s H=>bF P C (n+m) base ops o s H) (fun o s H r h=>im (Nat.le_add_left m n) h) h4
  refine ⟨n+m,⟨iJ (looks ops o) l,H,v,mP P ops (iJ (looks ops o) l) o⟩::tr,l',s',H',accF,?_,h5,h6,by simp at h7 ⊢;omega,fun j x hj=>h8 j x (by rw [List.getElem?_append_left (List.getElem?_eq_some_iff.1 hj).1];exact hj),?_,h10⟩
  ·simp only [mB]
   rw [e1]
   simp only
   rw [e2]
   rfl
  ·intro k o' hk
   cases k with
   | zero =>
    simp only [List.getElem?_cons_zero,Option.some.injEq] at hk
    subst hk
    refine ⟨(s,H,v),l,h8 _ _ (by rw [Nat.add_zero,←hl];simp),hr,rfl,rfl,rfl,by rw [CA];rfl,?_⟩
    rcases hw with hw | hw
    ·exact .inl hw
    ·exact .inr (hr.wanted hw)
   | succ k =>
    have:=h9 k o' (by simpa using hk)
    rw [show i+1+k=i+(k+1) by omega] at this
    exact this
theorem Gs {ops:Array Oper} {acc:List (Sl×ae×AV)} {H:ae}:∀{L:List (Nat×Nat)},(∀ip∈L,xl P C base ops acc H ip)→∃m,∀ip∈L,∃x o,acc[ip.1]?=some x∧ops[ip.1]?=some o∧∀lk,lV N lk x.1→∃Hx,(∃m',m'≤m∧bF P C m' base ops o lk (LR acc H ip.2)=some (x.2.2,Hx))∨¬lV N lk x.1:=by
 intro L
 induction L with
 | nil=>intro _;exact ⟨0,fun ip h=>by cases h⟩
 | cons ip L ih =>
  intro h
  obtain ⟨m,hm⟩:=ih fun q hq=>h q (by simp [hq])
  have h0:=h ip (by simp)
  unfold xl at h0
  cases hx:acc[ip.1]? with
  | none=>rw [hx] at h0;exact h0.elim
  | some x =>
   cases ho:ops[ip.1]? with
   | none=>rw [hx,ho] at h0;exact h0.elim
   | some o =>
    rw [hx,ho] at h0
    simp only at h0
    by_cases hr:∃lk,lV N lk x.1
    ·obtain ⟨lk,hr⟩:=hr
     obtain ⟨n,v,Hx,h1,h2⟩:=jN h0 hr
     refine ⟨max m n,fun q hq=>?_⟩
     rcases List.mem_cons.1 hq with rfl | hq
     ·refine ⟨x,o,hx,ho,fun lk' hr'=>⟨Hx,.inl ⟨n,Nat.le_max_right m n,?_⟩⟩⟩
      have:lk'=lk:=by
       refine List.ext_getElem? fun t=>?_
       by_cases ht:t<N
       ·have a1:=hr'.2 t
        have a2:=hr.2 t
        have b1:t<lk'.length:=by rw [hr'.1];exact ht
        have b2:t<lk.length:=by rw [hr.1];exact ht
        rw [List.getD_eq_getElem?_getD,List.getElem?_eq_getElem b1] at a1
        rw [List.getD_eq_getElem?_getD,List.getElem?_eq_getElem b2] at a2
        rw [List.getElem?_eq_getElem b1,List.getElem?_eq_getElem b2]
        simp only [Option.getD_some] at a1 a2
        rw [a1,a2]
       ·rw [List.getElem?_eq_none (by rw [hr'.1];omega),List.getElem?_eq_none (by rw [hr.1];omega)]
      rw [this,←h2];exact h1
     ·obtain ⟨x',o',a1,a2,a3⟩:=hm q hq
      refine ⟨x',o',a1,a2,fun lk' hr'=>?_⟩
      obtain ⟨Hx',h⟩:=a3 lk' hr'
      refine ⟨Hx',?_⟩
      rcases h with ⟨m',hm',h⟩ | h
      ·exact .inl ⟨m',Nat.le_trans hm' (Nat.le_max_left m n),h⟩
      ·exact .inr h
    ·refine ⟨m,fun q hq=>?_⟩
     rcases List.mem_cons.1 hq with rfl | hq
     ·exact ⟨x,o,hx,ho,fun lk' hr'=>absurd ⟨lk',hr'⟩ hr⟩
     ·exact hm q hq
theorem A0 {ops:Array Oper} {s:Sl} {H:ae} {Q:Sl→ae→Prop} (hst:wM P ops=true) (h:mE P C N base ops 0 ops.toList s H [] Q):Kr P C N base ops s H Q:=by
 intro l hr
 obtain ⟨n0,tr,l',s',H',accF,h1,h2,h3,h4,_,h5,h6⟩:=Oy h rfl hr
 obtain ⟨m,hm⟩:=Gs (N:=N) h6
 have h1':=lO (P:=P) (g:=fun o s H=>bF P C (n0+m) base ops o s H) (fun o s H r h=>im (Nat.le_add_right n0 m) h) h1
 refine ⟨n0+m,tr,l',s',H',h1',?_,h2,h3⟩
 obtain ⟨hlen,_⟩:=lP _ _ _ _ _ _ h1
 have hsz:ops.toList.length=ops.size:=by simp
 have hn:tr.length=ops.size:=by rw [hlen,hsz]
 have hget:∀i o,ops[i]?=some o→ops.toList[i]?=some o:=fun i o h=>by rw [Array.getElem?_toList];exact h
 have hop:∀i,i<ops.size→∃o,ops[i]?=some o:=fun i hi=>⟨_,Array.getElem?_eq_getElem hi⟩
 have hcls:∀i,i<ops.size→(tr.getD i default).c=0∨(tr.getD i default).c=kI P ops i:=by
  intro i hi
  obtain ⟨o,ho⟩:=hop i hi
  obtain ⟨x,lk,_,_,_,_,_,hc,_⟩:=h5 i o (hget i o ho)
  rw [hc]
  unfold mP kI
  rw [ho]
  split
  ·exact .inr rfl
  ·exact .inl rfl
 have hturn:∀i,i<ops.size→¬kI P ops i<2→(tr.getD i default).c=kI P ops i:=by
  intro i hi hc
  obtain ⟨o,ho⟩:=hop i hi
  obtain ⟨x,lk,_,_,_,_,_,hc',hw⟩:=h5 i o (hget i o ho)
  rw [Nat.zero_add] at hw
  rcases hw with hw | hw
  ·exact absurd hw hc
  ·rw [hc'];unfold mP kI;rw [ho,hw]
 have hin:∀k,k∈(List.range tr.length).filter (fun i=>decide (2≤(tr.getD i default).c))↔k<ops.size∧¬kI P ops k<2:=by
  intro k
  rw [List.mem_filter,List.mem_range,decide_eq_true_eq,hn]
  constructor
  ·rintro ⟨a,b⟩
   refine ⟨a,fun h=>?_⟩
   rcases hcls k a with h' | h'<;>omega
  ·rintro ⟨a,b⟩
   refine ⟨a,?_⟩
   rw [hturn k a b];omega
 unfold wM at hst
 rw [List.all_eq_true] at hst
 unfold jJ nh
 simp only
 rw [List.all_eq_true]
 intro i hi
 have hi:i<ops.size:=by rw [←hn];exact List.mem_range.1 hi
 obtain ⟨o,ho⟩:=hop i hi
 have h5':=hst i (List.mem_range.2 hi)
 rw [ho] at h5' ⊢
 simp only [Bool.and_eq_true] at h5' ⊢
 obtain ⟨⟨⟨h6',h7⟩,h8⟩,h9⟩:=h5'
 refine ⟨⟨⟨⟨h6',?_⟩,?_⟩,?_⟩,?_⟩
 ·rw [hn]
  rw [List.all_eq_true] at h7 ⊢
  intro k hk
  have h10:=h7 k hk
  rw [Bool.or_eq_true] at h10 ⊢
  rcases h10 with h10 | h10
  ·exact .inl h10
  ·right
   simp only [Option.bind_some] at h10 ⊢
   exact h10
 ·rcases hcls i hi with h' | h'
  ·simp only [h'];rfl
  ·simp only [h']
   rw [Bool.or_eq_true] at h8 ⊢
   rcases h8 with h8 | h8
   ·exact .inl h8
   ·right
    rw [List.all_eq_true] at h8 ⊢
    intro k hk
    rw [Bool.or_eq_true,decide_eq_true_eq]
    by_cases hik:i≤k
    ·exact .inl hik
    ·right
     have h11:=h8 k (List.mem_range.2 (by omega))
     rw [Bool.or_eq_true,decide_eq_true_eq] at h11
     rcases h11 with h11 | h11
     ·exact absurd h11 ((hin k).1 hk).2
     ·exact h11
 ·rcases hcls i hi with h' | h'
  ·simp only [h'];rfl
  ·simp only [h',hn]
   rw [Bool.or_eq_true] at h9 ⊢
   rcases h9 with h9 | h9
   ·exact .inl h9
   ·right
    rw [List.all_eq_true] at h9 ⊢
    intro j hj
    have h10:=h9 j hj
    rw [Bool.or_eq_true] at h10 ⊢
    rcases h10 with h10 | h10
    ·exact .inl h10
    ·right
     rw [List.all_eq_true] at h10 ⊢
     intro k hk
     rw [Bool.or_eq_true,decide_eq_true_eq]
     by_cases hik:i≤k
     ·exact .inl hik
     ·right
      have h11:=h10 k (List.mem_range.2 (by omega))
      rw [Bool.or_eq_true,decide_eq_true_eq] at h11
      rcases h11 with h11 | h11
      ·exact absurd h11 ((hin k).1 (by rw [hn];exact hk)).2
      ·exact h11
 ·rw [Bool.or_eq_true]
  by_cases hc1:(tr.getD i default).c=1
  ·right
   have hs1:kI P ops i=1:=by rcases hcls i hi with h' | h'<;>omega
   rw [List.all_eq_true]
   intro p hp
   rw [Bool.or_eq_true]
   by_cases hcons:((List.range tr.length).filter fun i=>decide (2≤(tr.getD i default).c)).all (fun k=>(!lp ops k i||decide (k<p))&&(!lp ops i k||decide (p≤k)))=true
   ·right
    rw [List.all_eq_true] at hcons
    have hp':p≤ops.size:=by
     rcases List.mem_append.1 hp with h | h
     ·exact Nat.le_of_lt ((hin p).1 h).1
     ·simp at h;omega
    have hcl:(i,p)∈vS P ops:=by
     unfold vS
     rw [List.mem_flatMap]
     refine ⟨i,List.mem_range.2 hi,?_⟩
     rw [if_pos (by simp [hs1]),List.mem_map]
     refine ⟨p,?_,rfl⟩
     rw [List.mem_filter,List.mem_range]
     refine ⟨by omega,?_⟩
     unfold F5
     rw [List.all_eq_true]
     intro k hk
     rw [Bool.or_eq_true,decide_eq_true_eq]
     by_cases hk2:kI P ops k<2
     ·exact .inl hk2
     ·exact .inr (hcons k ((hin k).2 ⟨List.mem_range.1 hk,hk2⟩))
    obtain ⟨x,o',a1,a2,a3⟩:=hm _ hcl
    obtain ⟨x2,lk,b1,b2,b3,b4,b5,_⟩:=h5 i o (hget i o ho)
    rw [Nat.zero_add] at b1
    simp only at a1 a2
    rw [b1] at a1;cases a1
    rw [ho] at a2;cases a2
    obtain ⟨Hx,h⟩:=a3 lk b2
    rcases h with ⟨m',hm',h⟩ | h
    ·have hheap:(if p<tr.length then (tr.getD p default).h else H')=LR accF H' p:=by
      unfold LR
      by_cases hpt:p<tr.length
      ·rw [if_pos hpt]
       obtain ⟨o2,ho2⟩:=hop p (by omega)
       obtain ⟨x3,_,c1,_,_,c4,_⟩:=h5 p o2 (hget p o2 ho2)
       rw [Nat.zero_add] at c1
       rw [c1];exact c4
      ·rw [if_neg hpt,List.getElem?_eq_none (by omega)]
     rw [hheap,b3,b5]
     have:=im (m:=n0+m) (by omega) h
     rw [uT,this]
     exact ta _
    ·exact absurd b2 h
   ·left
    simp only [Bool.not_eq_true] at hcons
    simp only [lp] at hcons
    rw [Bool.not_eq_true']
    exact hcons
  ·left
   rw [bne_iff_ne];exact hc1
def pK (P:Program) (C:bD) (N base:Nat) (c:Code) (s:Sl) (H:ae) (Q:cV):Prop:=∀l,lV N l s→∃n e l' s' H',aP P C n base c l H=some (e,l',H')∧lV N l' s'∧Q e s' H'
theorem du {c:Code} {s:Sl} {H:ae} {Q:cV} (hst:kC P c=true) (h:jb P C N base c s H Q):pK P C N base c s H Q:=fun _ hr=>fO hst h hr
theorem eD {a b:Code} (M:Sl→ae→Prop) {s:Sl} {H:ae} {Q:cV} (h1:pK P C N base a s H (AZ M Q)) (h2:∀s H,M s H→pK P C N base b s H Q):pK P C N base (.seq a b) s H Q:=by
 intro l hr
 obtain ⟨n,e,l',s',H',h3,h4,h5⟩:=h1 l hr
 cases e with
 | normal =>
  obtain ⟨m,e,l2,s2,H2,h6,h7,h8⟩:=h2 s' H' h5 l' h4
  exact ⟨n+m+1,e,l2,s2,H2,by simp only [aP];rw [eU (Nat.le_add_right n m) h3];exact eU (Nat.le_add_left m n) h6,h7,h8⟩
 | exit i=>exact ⟨n+1,.exit i,l',s',H',by simp only [aP];rw [h3],h4,h5⟩
 | ret=>exact ⟨n+1,.ret,l',s',H',by simp only [aP];rw [h3],h4,h5⟩
theorem Ap {id:Nat} {ops:Array Oper} {s:Sl} {H:ae} {Q:cV} (hst:wM P ops=true) (h:mE P C N base ops 0 ops.toList s H [] (Q .normal)):pK P C N base (.region id ops true) s H Q:=by
 intro l hr
 obtain ⟨n,tr,l',s',H',h1,h2,h3,h4⟩:=A0 hst h l hr
 exact ⟨n+1,.normal,l',s',H',by simp only [aP];rw [h1];simp only;rw [if_pos h2],h3,h4⟩
theorem zk {f:FuncId} {fn:Func} {c:Code} {args:List AV} {H:ae} {K:AV→ae→Prop} (hf:P.funcs[f]?=some fn) (hc:fn.body=some c) (hp:C.prim f=none) (hn:args.length≤fn.ntmps)
 (h:pK P C fn.ntmps base c (aE args fn.ntmps) H (EG P fn.results.toList K)):dU P C base f args H K:=by
 obtain ⟨n,e,l',s',H',h1,h2,h3⟩:=h _ (yG hn)
 unfold EG at h3
 have key:∀vs,ed P H' s' fn.results.toList=some vs→(e=.normal∨e=.ret)→cx P C (n+1) base f args H=some (i7 vs,H'):=by
  intro vs hv he
  unfold cx
  simp only [hp,hf,hc,h1]
  rcases he with rfl | rfl<;>simp [h2.results,hv]
 cases e with
 | exit i=>exact h3.elim
 | normal =>
  simp only at h3
  split at h3
  ·rename_i vs hv;exact ⟨n+1,_,H',key vs hv (.inl rfl),h3⟩
  ·exact h3.elim
 | ret =>
  simp only at h3
  split at h3
  ·rename_i vs hv;exact ⟨n+1,_,H',key vs hv (.inr rfl),h3⟩
  ·exact h3.elim
def FX (P:Program) (C:bD) (base:Nat) (ops:Array Oper) (acc:List (Sl×ae×AV)) (H:ae):Prop:=∀ip∈vS P ops,xl P C base ops acc H ip
def kV (P:Program) (C:bD) (N base:Nat) (ops:Array Oper) (i:Nat) (l:List Oper) (d:Option Tmp) (s:Sl) (H:ae) (acc:List (Sl×ae×AV)) (Q:Sl→ae→Prop):AV→ae→Prop:=fun v H'=>mE P C N base ops (i+1) l (pu s d v) H' (acc++[(s,H,v)]) Q
@[simp ↓] theorem Qo (ops:Array Oper) (i:Nat) (l:List Oper) (d:Option Tmp) (s:Sl) (H:ae) (acc:List (Sl×ae×AV)) (Q:Sl→ae→Prop) (v:AV) (H':ae):kV P C N base ops i l d s H acc Q v H'=mE P C N base ops (i+1) l (pu s d v) H' (acc++[(s,H,v)]) Q:=Eq.trans rfl rfl
@[simp ↓] theorem Pw (ops:Array Oper) (i:Nat) (s:Sl) (H:ae) (acc:List (Sl×ae×AV)) (Q:Sl→ae→Prop):mE P C N base ops i [] s H acc Q=(Q s H∧FX P C base ops acc H):=Eq.trans rfl rfl
@[simp ↓] theorem OP (ops:Array Oper) (i:Nat) (d:Option Tmp) (op:Op) (t:TypeId) (pos:String) (af:Array Edge) (l:List Oper) (s:Sl) (H:ae) (acc:List (Sl×ae×AV)) (Q:Sl→ae→Prop) :
 mE P C N base ops i (⟨d,op,t,pos,af,none⟩::l) s H acc Q=(nk N d∧dy P C base ⟨d,op,t,pos,af,none⟩ s H (kV P C N base ops i l d s H acc Q)):=by
 apply propext
 constructor
 ·rintro ⟨a,_,b⟩;exact ⟨a,b⟩
 ·rintro ⟨a,b⟩;exact ⟨a,.inr rfl,b⟩
@[simp ↓] theorem Lf (ops:Array Oper) (d:Option Tmp) (op:Op) (t:TypeId) (pos:String) (af:Array Edge) (s:Sl) (H:ae) (K:AV→ae→Prop):mF P C base ops ⟨d,op,t,pos,af,none⟩ s H K=dy P C base ⟨d,op,t,pos,af,none⟩ s H K:=Eq.trans rfl rfl
theorem xm {ops:Array Oper} {acc:List (Sl×ae×AV)} {H:ae} {L:List (Nat×Nat)} (h:vS P ops=L) (hp:∀ip∈L,xl P C base ops acc H ip):FX P C base ops acc H:=by unfold FX;rw [h];exact hp
end Go.Proofs.Ev
namespace Go.Proofs.Ev
open Go.Proofs
variable {C:bD} {σ:aZ}
def fj (M:List (aC×List aC)) (d:aC):List aC :=
 match M with
 | []=>[]
 | x::M=>if aB x.1 d then x.2 else fj M d
theorem wj {n:Nat} (d:aC):∀{T:List KR},(∀t∈T,t.l.length≤n)→(fj (T.map KR.m) d).length≤n
 | [],_=>Nat.zero_le _
 | t::T,h=>by
  show (if aB t.k d then t.l else fj (T.map KR.m) d).length≤n
  split
  ·exact h t (by simp)
  ·exact wj d fun u hu=>h u (by simp [hu])
def Ik (M:List (aC×List aC)):Prop:=∀x∈M,x.2≠[]
theorem Ik.add {d y:aC}:∀{M:List (aC×List aC)},Ik M→Ik (mY M d y)
 | [],_=>by intro x hx;simp [mY] at hx;subst hx;simp
 | x::M,h=>by
  have h1:=h x (by simp)
  have ih:=Ik.add (d:=d) (y:=y) (M:=M) fun z hz=>h z (by simp [hz])
  intro z hz
  rw [mY] at hz
  split at hz
  ·rcases List.mem_cons.1 hz with rfl | hz
   ·simp
   ·exact h z (by simp [hz])
  ·rcases List.mem_cons.1 hz with rfl | hz
   ·exact h1
   ·exact ih z hz
theorem GD (s:List ag):Ik (ow σ s).2:=by
 unfold ow
 have key:∀(l:List aG) (a:KS),Ik a.2→Ik (l.foldl iT a).2:=by
  intro l
  induction l with
  | nil=>intro a h;exact h
  | cons x l ih =>
   intro a h
   refine ih _ ?_
   unfold iT
   split
   ·exact h
   ·have k2:∀(o:List aC) (a:KS),Ik a.2→Ik (o.foldl (jA x) a).2:=by
     intro o
     induction o with
     | nil=>intro a h;exact h
     | cons d o ih=>intro a h;exact ih _ h.add
    exact k2 _ _ h
 exact key _ _ (by intro x hx;cases hx)
theorem wB:∀(T:List KR) (d:aC),(∀i v,fG (T.map KR.e) d=some (i,v)→∃t,T[i]?=some t∧v=t.v∧fj (T.map KR.m) d=t.l)∧(fG (T.map KR.e) d=none→fj (T.map KR.m) d=[])
 | [],d=>by simp [fG,fj]
 | x::T,d=>by
  have ih:=wB T d
  have hc:fG ((x::T).map KR.e) d=if aB x.k d then some (0,x.v) else (fG (T.map KR.e) d).map fun p=>(p.1+1,p.2):=rfl
  have ha:fj ((x::T).map KR.m) d=if aB x.k d then x.l else fj (T.map KR.m) d:=rfl
  rw [hc,ha]
  cases hs:aB x.k d with
  | true=>exact ⟨fun i v h=>by simp at h;obtain ⟨rfl,rfl⟩:=h;exact ⟨x,rfl,rfl,by simp⟩,by simp⟩
  | false =>
   simp only [Bool.false_eq_true,if_false]
   refine ⟨fun i v h=>?_,fun h=>ih.2 (by simpa using h)⟩
   cases hp:fG (T.map KR.e) d with
   | none=>rw [hp] at h;cases h
   | some p =>
    rw [hp] at h
    cases h
    obtain ⟨t,h1,h2,h3⟩:=ih.1 p.1 p.2 hp
    exact ⟨t,by simpa using h1,h2,h3⟩
theorem D8 (S:az C) {V:ae} {m lo:Nat} {T:List KR} (hm:V[m]?=some (.map (dL (T.map KR.e)))) (hks:yz lo T V) (hne:Ik (T.map KR.m)) (d:aC) :
 (fj (T.map KR.m) d=[]∧cU Tryz.prog C V 197 (.map m) (.agg d.cells) false=some .nils)∨
 (fj (T.map KR.m) d≠[]∧∃b g,lo≤b∧V[b]?=some (.rows 33 g ((fj (T.map KR.m) d).map aC.cells))∧cU Tryz.prog C V 197 (.map m) (.agg d.cells) false=some (.sl b g 33 0 (fj (T.map KR.m) d).length)):=by
 have hf:=oY S d (T.map KR.e) 0
 obtain ⟨h1,h2⟩:=wB T d
 simp only [cU,Ib,mp S,iY,hm,hf,if_true]
 cases hp:fG (T.map KR.e) d with
 | none=>left;exact ⟨h2 hp,by simp⟩
 | some p =>
  obtain ⟨t,ht,hv,hl⟩:=h1 p.1 p.2 hp
  have htm:=List.mem_of_getElem? ht
  obtain ⟨a1,a2⟩:=hks.1 t htm
  right
  rw [hl]
  refine ⟨hne t.m (List.mem_map.2 ⟨t,htm,rfl⟩),t.b,t.g,a1,a2,?_⟩
  simp [hv,KR.v]
def fi (σ:aZ) (s:List ag) (id:aC):List aC:=if (gp σ s id).isSome then σ.i (fj (ow σ s).2 id) else []
set_option maxHeartbeats 2000000 in
theorem Aa (S:ba C σ) (l:List ag) (k:SK) (id:aC) (hs:cr l) (h8:l.length≤8):b8 Tryz.prog C 58 [] [am k (l.map ag.cells),.agg id.cells] (am (gO (fi σ l id)) ((fi σ l id).map aC.cells)):=by
 refine aw (S.pureT _ (by decide)) fun H=>zk Tryz.func58 rfl (S.prim _ (by decide)) (by simp) ?_
 have e:=(zX S.tobw l k id hs).eq
 cases hf:gp σ l id with
 | none =>
  have hk:fi σ l id=[]:=by unfold fi;rw [hf];rfl
  rw [hf] at e
  simp only [Option.getD_none,Option.isSome_none] at e
  refine du (by kernel_rfl) ?_
  unfold Tryz.f58
  simp [aE,e,ao,aD,hk]
  rfl
 | some x =>
  rw [hf] at e
  simp only [Option.getD_some,Option.isSome_some] at e
  have hk:fi σ l id=σ.i (fj (ow σ l).2 id):=by unfold fi;rw [hf];rfl
  obtain ⟨V,T,v1,v2,v3,v4,vlo,ek⟩:=Bx S (k:=k) hs h8 (base:=H.length) (H:=H++[.rows 33 0 [id.cells],.rows 172 0 [x.cells]]) (by simp)
  have hne:=GD (σ:=σ) l
  rw [←v2] at hne hk
  have hid:ax V H.length 0 33 0=some id.cells:=by
   have h1:=vlo H.length (.rows 33 0 [id.cells]) (by simp)
   simp [ax,h1]
  simp only [List.length_append,List.length_cons,List.length_nil,Nat.zero_add] at v1 ek v3
  obtain ⟨M,hM⟩:∃M,M=fj (T.map KR.m) id:=⟨_,rfl⟩
  refine eD (fun s H'=>s 0=am k (l.map ag.cells)∧s 3=.ptr H.length 0 33 0 0∧H'=H++[.rows 33 0 [id.cells]]) (du (by kernel_rfl) (by simp [aE])) ?_
  rintro s H' ⟨q0,q3,rfl⟩
  refine eD (fun s H'=>s 0=am k (l.map ag.cells)∧s 3=.ptr H.length 0 33 0 0∧H'=H++[.rows 33 0 [id.cells],.rows 172 0 [x.cells]]) (du (by kernel_rfl) (by simp [q0,q3,e,ao,aD])) ?_
  clear q0 q3
  rintro s H' ⟨q0,q3,rfl⟩
  refine eD (fun s H'=>(M=[]∧s 7=.nils∧H'=V)∨(M≠[]∧∃b g,H.length+1+1+6≤b∧V[b]?=some (.rows 33 g (M.map aC.cells))∧s 7=.sl b g 33 0 M.length∧H'=V)) (Ap (by kernel_rfl) ?_) ?_
  ·rcases D8 S.toaz v1 v3 hne id with ⟨h1,h2⟩ | ⟨h1,b,g,h2,h3,h4⟩
   ·simp [q0,q3,ek,hid,h2]
    refine ⟨by rw [hM];exact h1,?_⟩
    refine xm (L:=[(2,0),(2,1),(2,2),(2,3),(2,4),(2,5),(3,2),(3,3),(3,4),(3,5)]) (by kernel_rfl) ?_
    simp [xl,LR,q0,q3,hid,h2]
    done
   ·rw [←hM] at h1 h3 h4
    simp [q0,q3,ek,hid,h4]
    refine ⟨⟨h1,h2,h3⟩,?_⟩
    refine xm (L:=[(2,0),(2,1),(2,2),(2,3),(2,4),(2,5),(3,2),(3,3),(3,4),(3,5)]) (by kernel_rfl) ?_
    simp [xl,LR,q0,q3,hid,h4]
    done
  clear q0 q3
  rintro s H' (⟨h1,q7,rfl⟩ | ⟨h1,b,g,h2,h3,q7,rfl⟩)
  ·refine du (by kernel_rfl) ?_
   have hk0:fi σ l id=[]:=by rw [hk,←hM,h1];exact (S.permI []).eq_nil
   have es:=fun H' K=>S.sortI0 (base:=H.length) (H:=H') K
   simp [q7,es,hk0]
   rfl
  ·refine du (by kernel_rfl) ?_
   rw [←hM] at hk
   have es:=fun K=>S.sortI (base:=H.length) (H:=H') (b:=b) (g:=g) (l:=M) (by have:=wj (n:=2^30) id v4;rw [←hM] at this;omega) (by omega) h3 K
   have hbV:b<H'.length:=(List.getElem?_eq_some_iff.1 h3).1
   have hlen:(σ.i M).length=M.length:=(S.permI M).length_eq
   have hne0:σ.i M≠[]:=fun h0=>h1 (List.length_eq_zero_iff.1 (by rw [←hlen,h0];rfl))
   have hkk:gO (fi σ l id)=.loose:=by rw [hk];unfold gO;cases hq:σ.i M with | nil=>exact absurd hq hne0 | cons _ _=>rfl
   simp [q7,es]
   rw [hkk,hk]
   have hfz:=dW (H:=H'.set b (.rows 33 g ((σ.i M).map aC.cells))) (b:=b) (g:=g) (sz:=33) (k:=H.length) (d:=2) (rs:=(σ.i M).map aC.cells) (by rw [List.getElem?_set_self hbV]) (by omega) (aH aC.closed _)
   rw [List.length_map,hlen] at hfz
   rw [hfz]
   cases (σ.i M).map aC.cells<;>rfl
end Go.Proofs.Ev
namespace Go.Proofs.Ev
open Go.Proofs
variable {C:bD} {σ:aZ}
theorem rF {P:Program} {base:Nat} {H:ae} {ts:Array TypeId} {s x v':AV} {H':ae} (h:bg P base H ts s x=some (v',H')):H.length≤H'.length:=by
 unfold bg at h
 repeat' split at h
 all_goals cases h
 all_goals first
  | exact Nat.le_refl _
  | (rw [List.length_append];exact Nat.le_add_right _ _)
  | (rw [List.length_set];exact Nat.le_refl _)
structure gG where
 kind:Int
 patch:ar
 id:aC
def gG.cells (e:gG):List AV:=.int .i64 e.kind::(e.patch.cells++e.id.cells)
@[simp] theorem gG.len (e:gG):e.cells.length=66:=by simp [gG.cells]
@[simp] theorem gG.leafs (e:gG):e.cells.all AV.leaf=true:=by
 have h1:=e.patch.leafs
 have h2:=e.id.leafs
 simp only [gG.cells,List.all_cons,List.all_append,h1,h2];rfl
@[simp] theorem gG.closed (e:gG):AV.closeds e.cells=true:=by simp [gG.cells,AV.closeds,AV.closed,cX]
@[simp] theorem gG.take (e:gG):e.cells.take 66=e.cells:=List.take_of_length_le (by simp)
theorem p9 (k:Int) (d:ar) (id:aC):d5 Tryz.prog 62 [(0,.int .i64 k),(1,.agg d.cells),(2,.agg id.cells)]=some (.agg (gG.cells ⟨k,d,id⟩)):=by
 have h1:d.cells.length=32:=by simp
 have h2:id.cells.length=33:=by simp
 have h3:(dig aJ).length=32:=by decide
 have h4:aJ.length=32:=by decide
 have h5:aM.cells.length=33:=by simp
 have l1:=d.leafs
 have l2:=id.leafs
 have a1:(dig aJ++aM.cells).drop 32=aM.cells:=by rw [cK (n:=32) h3 (by decide)];rfl
 have a2:aM.cells.drop 33=[]:=List.drop_of_length_le (by simp)
 have a3:(d.cells++aM.cells).take 32=d.cells:=by rw [List.take_append_of_le_length (by simp)];exact List.take_of_length_le (by simp)
 have a4:(d.cells++aM.cells).drop 65=[]:=List.drop_of_length_le (by simp)
 simp [aD,h1,h2,h4,a1,a2,a3,a4,gG.cells]
 done
structure rC (base lo rb:Nat) (line:aC) (th al:Bool) (ev:List gG) (X:ae):Prop where
 r:∃v,X[rb]?=some (.rows 36 0 [line.cells++[.bool th,.bool al,v]])∧jo lo 66 X v (ev.map gG.cells)∧((ev=[]∧v=.nils)∨(ev≠[]∧∃b g n,v=.sl b g 66 0 n))
 low:base≤lo∧base≤rb∧rb<lo∧lo≤X.length
def gI (rb:Nat) (X X':ae):Prop:=X.length≤X'.length∧∀b blk,b≠rb→X[b]?=some blk→(∀g rs,blk≠bL.rows 66 g rs)→X'[b]?=some blk
theorem gI.trans {rb:Nat} {X Y Z:ae} (h1:gI rb X Y) (h2:gI rb Y Z):gI rb X Z:=⟨Nat.le_trans h1.1 h2.1,fun b blk hb hx hn=>h2.2 b blk hb (h1.2 b blk hb hx hn) hn⟩
theorem gI.app (rb:Nat) (X L:ae):gI rb X (X++L):=⟨by simp,fun b blk _ hx _=>by rw [List.getElem?_append_left (List.getElem?_eq_some_iff.1 hx).1];exact hx⟩
theorem rC.app {base lo rb:Nat} {line:aC} {th al:Bool} {ev:List gG} {X:ae} (h:rC base lo rb line th al ev X) (L:ae):rC base lo rb line th al ev (X++L):=by
 obtain ⟨⟨v,h1,h2,h3⟩,a1,a2,a3,a4⟩:=h
 exact ⟨⟨v,by rw [List.getElem?_append_left (List.getElem?_eq_some_iff.1 h1).1];exact h1,h2.app L,h3⟩,a1,a2,a3,by simp;omega⟩
theorem C2 (x:aC) (a:AV) (l:List AV):(x.cells++a::l).drop 34=l:=by rw [cK (n:=33) (by simp) (by decide)];rfl
theorem sL (x:aC) (a b:AV) (l:List AV):(x.cells++a::b::l).drop 35=l:=by rw [cK (n:=33) (by simp) (by decide)];rfl
theorem JC (x:aC) (a b c:AV) (l:List AV):(x.cells++a::b::c::l).drop 36=l:=by rw [cK (n:=33) (by simp) (by decide)];rfl
theorem xY (x:aC) (a:AV) (l:List AV):(x.cells++a::l).take 34=x.cells++[a]:=by
 rw [List.take_append,List.take_of_length_le (by simp)];simp
theorem JD (x:aC) (a b:AV) (l:List AV):(x.cells++a::b::l).take 35=x.cells++[a,b]:=by
 rw [List.take_append,List.take_of_length_le (by simp)];simp
set_option maxHeartbeats 2000000 in
theorem FA (S:ba C σ) {base lo rb:Nat} {line:aC} {th al:Bool} {ev:List gG} {X:ae} (h:rC base lo rb line th al ev X) (hn:ev.length≤2^20) (k:Int) (d:ar) (id:aC) :
 ∃X',rC base lo rb line th al (ev++[⟨k,d,id⟩]) X'∧gI rb X X'∧∀K:AV→ae→Prop,aF Tryz.prog C base (.fn 57 []) [.ptr rb 0 36 0 0,.int .i64 k,.agg d.cells,.agg id.cells] X K=K (.tup []) X':=by
 suffices hh:aF Tryz.prog C base (.fn 57 []) [.ptr rb 0 36 0 0,.int .i64 k,.agg d.cells,.agg id.cells] X (fun v' X'=>v'=.tup []∧rC base lo rb line th al (ev++[⟨k,d,id⟩]) X'∧gI rb X X') by
  obtain ⟨X',⟨h1,h2⟩,h3⟩:=aF.ex hh
  exact ⟨X',h1,h2,h3⟩
 have hA:=h.app [.rows 32 0 [d.cells],.rows 33 0 [id.cells]]
 obtain ⟨⟨v,h1,h2,h3⟩,a1,a2,a3,a4⟩:=hA
 obtain ⟨v',X',ha,hg',hst,hsl⟩:=h2.append (P:=Tryz.prog) (base:=base) (ts:=#[30,30]) (e:=62) (xd:=.slice 62) (x:=.lst [gG.cells ⟨k,d,id⟩] true) (ys:=[gG.cells ⟨k,d,id⟩])
  (by simp) (by simp) Mp NC (by simp [show aJ.length=32 by decide]) (by decide) a1 (fun r hr=>by obtain ⟨y,_,rfl⟩:=List.mem_map.1 hr;simp) rfl (by simp) (by simp;omega)
 have hv'l:=hsl (by simp)
 have hrb':X'[rb]?=some (.rows 36 0 [line.cells++[.bool th,.bool al,v]]):=hst _ _ h1 (by intro g rs h;cases h)
 have hrX:rb<X'.length:=(List.getElem?_eq_some_iff.1 hrb').1
 refine bW (S.plainT _ (by decide)).1 (S.plainT _ (by decide)).2 (aj Tryz.func57 rfl (S.prim _ (by decide)) (by simp) (by kernel_rfl) ?_)
 unfold Tryz.f57
 refine cut (fun s X''=>s 0=.ptr rb 0 36 0 0∧s 1=.int .i64 k∧s 6=.ptr X.length 0 32 0 0∧s 7=.ptr (X.length+1) 0 33 0 0∧X''=X++[.rows 32 0 [d.cells],.rows 33 0 [id.cells]]) ?_ ?_
 ·simp [aE]
 rintro s X'' ⟨q0,q1,q6,q7,rfl⟩
 have hr1:ax (X++[.rows 32 0 [d.cells],.rows 33 0 [id.cells]]) rb 0 36 0=some (line.cells++[.bool th,.bool al,v]):=by simp only [ax,h1];simp
 have eb:=p9 k d id
 obtain ⟨en,hen⟩:∃en,en=gG.cells ⟨k,d,id⟩:=⟨_,rfl⟩
 have henl:en.length=66:=by rw [hen];simp
 have hena:∀x∈en,x.leaf=true:=by rw [hen];exact List.all_eq_true.1 (gG.leafs _)
 rw [←hen] at eb ha
 have hvl:v'.leaf=true:=by obtain ⟨b,g,n,rfl⟩:=hv'l;rfl
 have hvc:v'.cells=[v']:=by obtain ⟨b,g,n,rfl⟩:=hv'l;rfl
 have r35:=sL line (.bool th) (.bool al) [v]
 have r36:=JC line (.bool th) (.bool al) v []
 have r35':=JD line (.bool th) (.bool al) [v]
 have hrow':ax X' rb 0 36 0=some (line.cells++[.bool th,.bool al,v]):=by simp [ax,hrb']
 simp [-IE,q0,q1,q6,q7,hr1,eb,hena,henl,r35,ah,aq,show aJ.length=32 by decide,ha]
 rw [aL (h:=by kernel_rfl)]
 simp [q0,q1,q6,q7,ao,hrb',hvl,hvc,r35',r36,a2]
 rw [aL (h:=by kernel_rfl)]
 simp
 have hkeep:∀b blk,b≠rb→X[b]?=some blk→(∀g rs,blk≠bL.rows 66 g rs)→(X'.set rb (.rows 36 0 [line.cells++[.bool th,.bool al,v']]))[b]?=some blk:=fun b blk hb hx hn=>by
  rw [List.getElem?_set_ne (Ne.symm hb)]
  exact hst _ _ (by rw [List.getElem?_append_left (List.getElem?_eq_some_iff.1 hx).1];exact hx) hn
 have hlX:X.length≤X'.length:=by
  have:=rF ha
  simp at this;omega
 refine ⟨hena,⟨⟨v',by rw [List.getElem?_set_self hrX],?_,.inr ⟨by simp,hv'l⟩⟩,a1,a2,a3,?_⟩,⟨by simpa using hlX,hkeep⟩⟩
 ·have:=hg'.setL (x:=.rows 36 0 [line.cells++[.bool th,.bool al,v']]) hrb' (by intro g rs h;cases h)
  simpa using this
 ·have:=hg'.1
  simpa using this
def kD (σ:aZ) (line:aC) (a:(Bool×Bool)×List gG) (d:ar) (part:List ag):(Bool×Bool)×List gG :=
 if a.1.1=false∧d.d≠line.d then a else
  let b:Bool×List gG:=if a.1.1 then (a.1.2,a.2) else (true,a.2++[⟨1,d,line⟩])
  let kl:=fi σ part line
  let alive:=decide (kl.length=0)
  if alive=b.1 then ((true,b.1),b.2) else ((true,alive),b.2++[if alive then ⟨3,d,line⟩ else ⟨2,d,kl.getD 0 line⟩])
theorem FP (a b:Bool):bP Tryz.prog C .neq 4 (.bool a) (.bool b)=some (.bool (a != b)):=by
 cases a<;>cases b<;>simp [bP,qK]
theorem te {rb b e:Nat} {X X':ae} {r:List AV} (h:gI rb X X') (hb:b≠rb) (he:e≠66) (hr:ax X b 0 e 0=some r):ax X' b 0 e 0=some r:=by
 unfold ax at hr ⊢
 cases hx:X[b]? with
 | none=>rw [hx] at hr;cases hr
 | some blk =>
  rw [hx] at hr
  cases blk with
  | rows e' g rs =>
   simp only at hr
   split at hr
   ·rename_i hc
    obtain ⟨rfl,rfl⟩:=hc
    rw [h.2 b _ hb hx (by intro g' rs' h';cases h';exact he rfl)]
    simpa using hr
   ·cases hr
  | _=>cases hr
theorem rC.row {base lo rb:Nat} {line:aC} {th al:Bool} {ev:List gG} {X:ae} (h:rC base lo rb line th al ev X):∃v,ax X rb 0 36 0=some (line.cells++[.bool th,.bool al,v]):=by
 obtain ⟨⟨v,h1,_⟩,_⟩:=h
 exact ⟨v,by simp [ax,h1]⟩
theorem rC.flags {base lo rb:Nat} {line:aC} {th al:Bool} {ev:List gG} {X:ae} (h:rC base lo rb line th al ev X) (th' al':Bool) {v:AV} (hv:ax X rb 0 36 0=some (line.cells++[.bool th,.bool al,v])):rC base lo rb line th' al' ev (X.set rb (.rows 36 0 [line.cells++[.bool th',.bool al',v]])):=by
 obtain ⟨⟨v0,h1,h2,h3⟩,a1,a2,a3,a4⟩:=h
 have hrX:rb<X.length:=(List.getElem?_eq_some_iff.1 h1).1
 have hvv:v0=v:=by
  simp only [ax,h1] at hv
  have:=List.append_cancel_left (by simpa using hv:line.cells++[AV.bool th,.bool al,v0]=line.cells++[.bool th,.bool al,v])
  simpa using this
 subst hvv
 exact ⟨⟨v0,by rw [List.getElem?_set_self hrX],h2.setL h1 (by intro g rs h;cases h),h3⟩,a1,a2,a3,by simpa using a4⟩
theorem gI.set (rb:Nat) (X:ae) (x:bL):gI rb X (X.set rb x):=⟨by simp,fun b blk hb hx _=>by rw [List.getElem?_set_ne (Ne.symm hb)];exact hx⟩
set_option maxRecDepth 100000 in
set_option maxHeartbeats 4000000 in
theorem JY (S:ba C σ) {base lo rb:Nat} {line:aC} {th al:Bool} {ev:List gG} {X:ae} (h:rC base lo rb line th al ev X) (hn:ev.length≤2^19) (d:ar) {part:List ag} {kp:SK} (hs:cr part) (h8:part.length≤8) :
 ∃X',rC base lo rb line (kD σ line ((th,al),ev) d part).1.1 (kD σ line ((th,al),ev) d part).1.2 (kD σ line ((th,al),ev) d part).2 X'∧gI rb X X'∧
  ∀K:AV→ae→Prop,aF Tryz.prog C base (.fn 23 []) [.ptr rb 0 36 0 0,.agg d.cells,am kp (part.map ag.cells)] X K=K (.tup []) X':=by
 suffices hh:aF Tryz.prog C base (.fn 23 []) [.ptr rb 0 36 0 0,.agg d.cells,am kp (part.map ag.cells)] X (fun v' X'=>v'=.tup []∧rC base lo rb line (kD σ line ((th,al),ev) d part).1.1 (kD σ line ((th,al),ev) d part).1.2 (kD σ line ((th,al),ev) d part).2 X'∧gI rb X X') by
  obtain ⟨X',⟨h1,h2⟩,h3⟩:=aF.ex hh
  exact ⟨X',h1,h2,h3⟩
 have hlow:=h.low
 have hA:=h.app [.rows 32 0 [d.cells]]
 have ekl:=(Aa S part kp line hs h8).eq
 have eqd:=jL S.toaz
 have end_:=fun a b=>jv (eqd a b)
 refine bW (S.plainT _ (by decide)).1 (S.plainT _ (by decide)).2 (aj Tryz.func23 rfl (S.prim _ (by decide)) (by simp) (by kernel_rfl) ?_)
 unfold Tryz.f23
 refine cut (fun s X''=>s 0=.ptr rb 0 36 0 0∧s 2=am kp (part.map ag.cells)∧s 4=.ptr X.length 0 32 0 0∧X''=X++[.rows 32 0 [d.cells]]) ?_ ?_
 ·simp [aE]
 rintro s X1 ⟨q0,q2,q4,hX1⟩
 have hdv:line.dv.cells=dig line.d:=rfl
 have hrX:rb<X.length:=by omega
 have hXrb:X.length≠rb:=by omega
 have hd1:ax X1 X.length 0 32 0=some d.cells:=by rw [hX1];simp
 have hk1:gI rb X X1:=by rw [hX1];exact gI.app _ _ _
 rw [←hX1] at hA
 clear hX1
 have ht32:∀l:List AV,List.take 32 (line.cells++l)=dig line.d:=fun l=>by rw [List.take_append_of_le_length (by simp),line.dig]
 have hn1:=end_ d line.dv
 rw [hdv] at hn1
 refine cut (fun s X2=>s 0=.ptr rb 0 36 0 0∧s 2=am kp (part.map ag.cells)∧s 4=.ptr X.length 0 32 0 0∧ax X2 X.length 0 32 0=some d.cells∧gI rb X X2∧(th=true∨d.d=line.d)∧
  rC base lo rb line true (if th then al else true) (if th then ev else ev++[⟨1,d,line⟩]) X2) ?_ ?_
 ·obtain ⟨v,hv⟩:=hA.row
  have hg:X1[rb]?=some (.rows 36 0 [line.cells++[.bool th,.bool al,v]]):=by
   obtain ⟨⟨v0,h1,_⟩,_⟩:=hA
   have hvv:v0=v:=by
    simp only [ax,h1] at hv
    have:=List.append_cancel_left (by simpa using hv:line.cells++[AV.bool th,.bool al,v0]=line.cells++[.bool th,.bool al,v])
    simpa using this
   rw [←hvv];exact h1
  have hrX1:rb<X1.length:=(List.getElem?_eq_some_iff.1 hg).1
  cases th with
  | true =>
   simp [q0,q2,q4,hv,hd1]
   exact ⟨hk1,hA⟩
  | false =>
   by_cases hd:d.d=line.d
   ·have hF:=hA.flags true true hv
    have hv3:ax (X1.set rb (.rows 36 0 [line.cells++[.bool true,.bool true,v]])) rb 0 36 0=some (line.cells++[.bool true,.bool true,v]):=by simp [ax,hrX1]
    have hd3:ax (X1.set rb (.rows 36 0 [line.cells++[.bool true,.bool true,v]])) X.length 0 32 0=some d.cells:=te (gI.set rb X1 _) hXrb (by decide) hd1
    obtain ⟨X4,hR4,hk4,ea⟩:=FA S hF (by omega) 1 d line
    have hd4:=te hk4 hXrb (by decide) hd3
    have c1:=C2 line (.bool false) [.bool al,v]
    have c2:=sL line (.bool true) (.bool al) [v]
    have c3:=xY line (.bool true) [.bool al,v]
    have hn2:bP Tryz.prog C .neq 25 (.agg d.cells) (.agg (dig line.d))=some (.bool false):=by rw [hn1];simp [hd];rfl
    have hs2:(X1.set rb (.rows 36 0 [line.cells++[.bool true,.bool al,v]]))[rb]?=some (.rows 36 0 [line.cells++[.bool true,.bool al,v]]):=by rw [List.getElem?_set_self hrX1]
    simp [q0,q2,q4,hv,hd1,ht32,hn2,ao,hg,hs2,c1,c2,c3,hlow.2.1,hv3,hd3,ea]
    rw [aL (h:=by kernel_rfl)]
    simp [q0,q2,q4]
    exact ⟨hd4,(hk1.trans (gI.set _ _ _)).trans hk4,hd,hR4⟩
   ·have hst:kD σ line ((false,al),ev) d part=((false,al),ev):=by simp [kD,hd]
    have hdd:¬d.d=line.dv.d:=hd
    simp [q0,q2,q4,hv,hd1,ht32,hn1,hdd,hst]
    exact ⟨hA,hk1⟩
 clear q0 q2 q4
 rintro s X2 ⟨q0,q2,q4,hd2,hk2,hcond,hR2⟩
 obtain ⟨al2,hal2⟩:∃al2,al2=(if th then al else true):=⟨_,rfl⟩
 obtain ⟨ev2,hev2⟩:∃ev2,ev2=(if th then ev else ev++[⟨1,d,line⟩]):=⟨_,rfl⟩
 rw [←hal2,←hev2] at hR2
 have hev2l:ev2.length≤2^20:=by rw [hev2];split<;>simp<;>omega
 obtain ⟨kl,hkl⟩:∃kl,kl=fi σ part line:=⟨_,rfl⟩
 rw [←hkl] at ekl
 have hst:kD σ line ((th,al),ev) d part=if decide (kl.length=0)=al2 then ((true,al2),ev2) else ((true,decide (kl.length=0)),ev2++[if decide (kl.length=0) then ⟨3,d,line⟩ else ⟨2,d,kl.getD 0 line⟩]):=by
  have h0:¬(th=false∧d.d≠line.d):=by rcases hcond with h | h<;>simp [h]
  unfold kD
  rw [if_neg h0]
  cases th<;>simp [hal2,hev2,hkl]
 rw [hst]
 obtain ⟨v2,hv2⟩:=hR2.row
 have hb0:((kl.length:Int)==0)=decide (kl.length=0):=by rw [Bool.eq_iff_iff];simp
 obtain ⟨alive,hal⟩:∃alive,alive=decide (kl.length=0):=⟨_,rfl⟩
 rw [←hal] at hb0 ⊢
 have e35:=C2 line (.bool true) [.bool al2,v2]
 have nb:=FP (C:=C) alive al2
 by_cases he:alive=al2
 ·rw [if_pos he]
  rw [he] at nb hb0
  simp [q0,q2,q4,hv2,ekl,hb0,e35,nb]
  exact ⟨hR2,hk2⟩
 ·rw [if_neg he]
  have hne:(alive != al2)=true:=by simpa using he
  rw [hne] at nb
  have hR3:∀(e:gG),∃X3,rC base lo rb line true al2 (ev2++[e]) X3∧gI rb X2 X3∧∀K:AV→ae→Prop,aF Tryz.prog C base (.fn 57 []) [.ptr rb 0 36 0 0,.int .i64 e.kind,.agg e.patch.cells,.agg e.id.cells] X2 K=K (.tup []) X3:=fun e=>FA S hR2 hev2l e.kind e.patch e.id
  have fin:∀(e:gG) (X3:ae),rC base lo rb line true al2 (ev2++[e]) X3→gI rb X2 X3→∃v3,X3[rb]?=some (.rows 36 0 [line.cells++[.bool true,.bool al2,v3]])∧rC base lo rb line true alive (ev2++[e]) (X3.set rb (.rows 36 0 [line.cells++[.bool true,.bool alive,v3]]))∧gI rb X (X3.set rb (.rows 36 0 [line.cells++[.bool true,.bool alive,v3]])):=by
   intro e X3 hR hk
   obtain ⟨v3,hv3⟩:=hR.row
   refine ⟨v3,?_,hR.flags true alive hv3,(hk2.trans hk).trans (gI.set _ _ _)⟩
   obtain ⟨⟨v0,h1,_⟩,_⟩:=hR
   have hvv:v0=v3:=by
    simp only [ax,h1] at hv3
    have:=List.append_cancel_left (by simpa using hv3:line.cells++[AV.bool true,.bool al2,v0]=line.cells++[.bool true,.bool al2,v3])
    simpa using this
   rw [←hvv];exact h1
  cases ha:alive with
  | true =>
   rw [ha] at nb hb0
   obtain ⟨X3,hR3,hk3,ea⟩:=hR3 ⟨3,d,line⟩
   obtain ⟨v3,hg3,hR4,hk4⟩:=fin _ _ hR3 hk3
   rw [ha] at hR4 hk4
   have c2:=sL line (.bool true) (.bool al2) [v3]
   have c3:=xY line (.bool true) [.bool al2,v3]
   simp only at ea
   simp [q0,q2,q4,hv2,hd2,ekl,hb0,e35,nb,ea]
   rw [aL (h:=by kernel_rfl)]
   simp [q0,q2,q4,ao,hg3,c2,c3,hlow.2.1]
   exact ⟨hR4,hk4⟩
  | false =>
   rw [ha] at nb hb0
   have hkl0:kl≠[]:=fun h=>by rw [hal,h] at ha;cases ha
   obtain ⟨y,kl',hy⟩:=List.exists_cons_of_ne_nil hkl0
   have hg0:kl.getD 0 line=y:=by rw [hy];rfl
   rw [hg0]
   obtain ⟨X3,hR3,hk3,ea⟩:=hR3 ⟨2,d,y⟩
   obtain ⟨v3,hg3,hR4,hk4⟩:=fin _ _ hR3 hk3
   rw [ha] at hR4 hk4
   have c2:=sL line (.bool true) (.bool al2) [v3]
   have c3:=xY line (.bool true) [.bool al2,v3]
   simp only at ea
   have hpos:0<kl.length:=by rw [hy];simp
   have hget:kl[0]=y:=by simp [hy]
   simp [q0,q2,q4,hv2,hd2,ekl,hb0,e35,nb,ea,hpos,hget]
   rw [aL (h:=by kernel_rfl)]
   simp [q0,q2,q4,ao,hg3,c2,c3,hlow.2.1]
   exact ⟨hR4,hk4⟩
end Go.Proofs.Ev
namespace Go.Proofs.Ev
open Go.Proofs
variable {C:bD} {σ:aZ}
theorem zH (S:ba C σ) (v:AV) (hv:v.leaf=true) (hc:v.cells=[v]) {base:Nat} {H:ae} (K:AV→ae→Prop) :
 aF Tryz.prog C base (.fn 22 []) [v] H K=K (.fn 54 [.ptr H.length 0 1 0 0]) (H++[.rows 1 0 [[v]]]):=by
 refine aF.eq (bW (S.plainT _ (by decide)).1 (S.plainT _ (by decide)).2 (aj Tryz.func22 rfl (S.prim _ (by decide)) (by simp) (by kernel_rfl) ?_)) K
 unfold Tryz.f22
 simp [aE,hv,hc]
theorem ul {s:List ag} (hs:cr s) (ids:List ar):cr (cL s ids) :=
 ⟨fun x hx=>hs.1 x (List.mem_filter.1 hx).1,hs.2.1.filter _,Nat.le_trans (List.length_filter_le _ _) hs.2.2⟩
set_option maxRecDepth 100000 in
set_option maxHeartbeats 4000000 in
theorem G2 (S:ba C σ) {s0:List ag} {k:SK} (hs:cr s0) {base bl bs:Nat} {I:Nat→ae→Prop} (happ:∀j X L,I j X→I j (X++L)) (hb:∀j X,I j X→base≤X.length∧ax X bs 0 1 0=some [am k (s0.map ag.cells)])
 (hy:∀(j:Nat) X d,I j X→(cn σ s0 s0.length [])[j]?=some d→aF Tryz.prog C base (.yld bl) [.agg d.cells,am (gO (cL s0 ((cn σ s0 s0.length []).take (j+1)))) ((cL s0 ((cn σ s0 s0.length []).take (j+1))).map ag.cells)] X fun v X'=>v=.bool true∧I (j+1) X')
 {X0:ae} (h0:I 0 X0) (K:AV→ae→Prop) (hK:∀X,I (cn σ s0 s0.length []).length X→K (.tup []) X) :
 dU Tryz.prog C base 54 [.yld bl,.ptr bs 0 1 0 0] X0 K:=by
 refine aj Tryz.func54 rfl (S.prim _ (by decide)) (by simp) (by kernel_rfl) ?_
 unfold Tryz.f54
 obtain ⟨L,hL⟩:∃L,L=cn σ s0 s0.length []:=⟨_,rfl⟩
 have hLl:L.length≤2^20:=by rw [hL];have:=eQ (σ:=σ) s0 s0.length [];have:=hs.2.2;simp at *;omega
 have eo:=(ro S.tobw s0 k hs).eq
 rw [←hL] at hy hK eo
 obtain ⟨_,hb0⟩:=hb 0 X0 h0
 simp [aE,hb0,eo]
 refine ay L.length (fun j s X=>s 0=.yld bl∧s 1=.ptr bs 0 1 0 0∧s 3=am (gO L) (L.map ar.cells)∧s 8=am (gO L) (L.map ar.cells)∧s 9=.int .i64 L.length∧s 10=.int .i64 j∧I j X) ?_ ?_
 ·exact ⟨rfl,rfl,rfl,rfl,rfl,rfl,h0⟩
 rintro j s X ⟨q0,q1,q3,q8,q9,q10,hI⟩ hj
 by_cases h:j<L.length
 ·obtain ⟨hbX,hbs⟩:=hb j X hI
  have hI2:=happ j X [.rows 32 0 [L[j].cells]] hI
  obtain ⟨_,hbs2⟩:=hb j _ hI2
  obtain ⟨x,hx⟩:=sN (P:=Tryz.prog) (t:=34) (e:=25) (k:=gO L) (rows:=L.map ar.cells) (j:=j+1) (K:=.i64) (by simp) mD (by simp) (by simp;omega)
  rw [←List.map_take] at hx
  have hxs:AV.lst ((L.take (j+1)).map ar.cells) x=am (if x then .exact else .loose) ((L.take (j+1)).map ar.cells):=by cases x<;>cases (L.take (j+1)).map ar.cells<;>rfl
  have ekp:=(G8 S.tobw s0 (L.take (j+1)) k (if x then .exact else .loose) hs.2.2 (by simp;omega)).eq
  rw [←hxs] at ekp
  obtain ⟨X',hI',ey⟩:=aF.ex (hy j _ L[j] hI2 (List.getElem?_eq_getElem h))
  have w1:IntKind.i64.wrap ((j:Int)+1)=((j+1:Nat):Int):=au h (by omega)
  obtain ⟨j1,hj1⟩:∃j1,j1=j+1:=⟨_,rfl⟩
  rw [←hj1] at hx hxs ekp ey w1
  obtain ⟨tk,htk⟩:∃tk,tk=(L.take j1).map ar.cells:=⟨_,rfl⟩
  rw [←htk] at hx ekp
  have hd0:aJ.length=32:=by decide
  have hdr:List.drop 32 (dig aJ)=[]:=by decide
  simp [q0,q1,q3,q8,q9,q10,h,ao,hd0,hdr,hbX,hbs2,w1,hx,ekp,ey]
  rw [aL (h:=by kernel_rfl)]
  simp [q0,q1,q3,q8,q9,q10,h,ao,hd0,hdr,hbX,hbs2,w1,hx,ekp,ey]
  exact ⟨by omega,hI'⟩
 ·have h':j=L.length:=by omega
  subst h'
  simp [q0,q1,q3,q8,q9,q10]
  exact hK X hI
end Go.Proofs.Ev
namespace Go.Proofs.Ev
open Go.Proofs
variable {C:bD} {σ:aZ}
def qo (σ:aZ) (s:List ag) (line:aC) (L:List ar):Nat→(Bool×Bool)×List gG
 | 0=>((false,false),[])
 | n+1=>match L[n]? with
  | some d=>kD σ line (qo σ s line L n) d (cL s (L.take (n+1)))
  | none=>qo σ s line L n
def kP (σ:aZ) (s:List ag) (line:aC):List gG:=(qo σ s line (cn σ s s.length []) (cn σ s s.length []).length).2
theorem E8 (σ:aZ) (line:aC) (a:(Bool×Bool)×List gG) (d:ar) (part:List ag):(kD σ line a d part).2.length≤a.2.length+2:=by
 unfold kD
 split
 ·omega
 ·simp only
  split<;>split<;>simp<;>omega
theorem zL (σ:aZ) (s:List ag) (line:aC) (L:List ar):∀n,(qo σ s line L n).2.length≤2*n
 | 0=>Nat.le_refl _
 | n+1=>by
  have ih:=zL σ s line L n
  unfold qo
  split
  ·rename_i d _
   have:=E8 σ line (qo σ s line L n) d (cL s (L.take (n+1)))
   omega
  ·omega
theorem Ov (l:List AV):(aM.cells++l).drop 33=l:=by rw [cK (n:=33) (by simp) (by decide)];rfl
theorem Ou:aM.cells.length=33:=by simp
theorem rC.row' {base lo rb:Nat} {line:aC} {th al:Bool} {ev:List gG} {X:ae} (h:rC base lo rb line th al ev X):∃v,ax X rb 0 36 0=some (line.cells++[.bool th,.bool al,v])∧jo lo 66 X v (ev.map gG.cells)∧((ev=[]∧v=.nils)∨(ev≠[]∧∃b g n,v=.sl b g 66 0 n)):=by
 obtain ⟨⟨v,h1,h2⟩,_⟩:=h
 exact ⟨v,by simp [ax,h1],h2⟩
theorem rC.setO {base lo rb b:Nat} {line:aC} {th al:Bool} {ev:List gG} {X:ae} {blk x:bL} (h:rC base lo rb line th al ev X) (hb:X[b]?=some blk) (hn:∀g rs,blk≠bL.rows 66 g rs) (hne:b≠rb):rC base lo rb line th al ev (X.set b x):=by
 obtain ⟨⟨v0,h1,h2,h3⟩,a1,a2,a3,a4⟩:=h
 exact ⟨⟨v0,by rw [List.getElem?_set_ne hne];exact h1,h2.setL hb hn,h3⟩,a1,a2,a3,by simpa using a4⟩
theorem jo.freezeAt {start sz d k:Nat} {X:ae} {v:AV} {rows:List (List AV)} (hk:k≤start) (hg:jo start sz X v rows) (hc:AV.closedss rows=true) (hv:(rows=[]∧v=.nils)∨(rows≠[]∧∃b g l,v=.sl b g sz 0 l)):aI X k (d+1) v=some (am (gO rows) rows):=by
 rcases hv with ⟨h0,h1⟩ | ⟨h0,b,g,l,h1⟩
 ·rw [h0,h1];simp [gO,am]
 ·have hk:gO rows=.loose:=by unfold gO;cases rows with | nil=>exact absurd rfl h0 | cons _ _=>rfl
  rcases hg.2 with ⟨_,h2⟩ | h2 | ⟨b',g',h2,h3⟩
  ·rw [h1] at h2;cases h2
  ·rw [h1] at h2;cases h2
  ·rw [List.getElem?_drop] at h3
   rw [h2,dW h3 (by omega) hc,hk]
   cases rows<;>rfl
def PG (base lo rb:Nat) (line:aC) (ev:List gG) (X:ae):Prop:=∃th al,rC base lo rb line th al ev X
def It (σ:aZ) (s:List ag) (line:aC) (base lo rb pr bl bs:Nat) (LB:bL) (v:AV) (j:Nat) (X:ae):Prop :=
 rC base lo rb line (qo σ s line (cn σ s s.length []) j).1.1 (qo σ s line (cn σ s s.length []) j).1.2 (qo σ s line (cn σ s s.length []) j).2 X∧X[bl]?=some LB∧ax X bs 0 1 0=some [v]∧ax X pr 0 1 0=some [.ptr rb 0 36 0 0]
theorem It.app {s:List ag} {line:aC} {base lo rb pr bl bs:Nat} {LB:bL} {v:AV} {j:Nat} {X:ae} (h:It σ s line base lo rb pr bl bs LB v j X) (L:ae):It σ s line base lo rb pr bl bs LB v j (X++L):=by
 obtain ⟨h1,h2,h3,h4⟩:=h
 exact ⟨h1.app L,by rw [List.getElem?_append_left (List.getElem?_eq_some_iff.1 h2).1];exact h2,bM h3 L,bM h4 L⟩
theorem Gi (S:ba C σ) {s0:List ag} {k:SK} (hs:cr s0) (h8:s0.length≤8) {line:aC} {base lo rb pr bl bs nb po:Nat} {l1:List AV} {ps:List Tmp} {asg bd:Code} {X:ae} (hnb:nb=bl) (hpo:po=bs)
 (hy:∀(LB BB:bL) (_:cm l1 ps asg bd=LB) (_:mI l1 ps asg bd=BB) (j:Nat) (V:ae) (d:ar),It σ s0 line base lo rb pr bl bs LB (am k (s0.map ag.cells)) j V→(cn σ s0 s0.length [])[j]?=some d→
  aF Tryz.prog C base (.yld bl) [.agg d.cells,am (gO (cL s0 ((cn σ s0 s0.length []).take (j+1)))) ((cL s0 ((cn σ s0 s0.length []).take (j+1))).map ag.cells)] V fun v V'=>v=.bool true∧It σ s0 line base lo rb pr bl bs LB (am k (s0.map ag.cells)) (j+1) V')
 (h0:It σ s0 line base lo rb pr bl bs (cm l1 ps asg bd) (am k (s0.map ag.cells)) 0 (X++[cm l1 ps asg bd])) (K:AV→ae→Prop)
 (hK:∀V,It σ s0 line base lo rb pr bl bs (cm l1 ps asg bd) (am k (s0.map ag.cells)) (cn σ s0 s0.length []).length V→K (.tup []) V) :
 dU Tryz.prog C base 54 [.yld nb,.ptr po 0 1 0 0] (X++[cm l1 ps asg bd]) K:=by
 subst hnb;subst hpo
 refine G2 S (k:=k) hs (I:=It σ s0 line base lo rb pr nb po (cm l1 ps asg bd) (am k (s0.map ag.cells))) (fun j X L h=>h.app L) ?_ ?_ h0 K hK
 ·rintro j X ⟨h1,_,h3,_⟩
  exact ⟨by have:=h1.low;omega,h3⟩
 ·intro j V d h hd
  exact hy _ _ rfl rfl j V d h hd
set_option maxRecDepth 100000 in
set_option maxHeartbeats 8000000 in
theorem BV (S:ba C σ) (s0:List ag) (k:SK) (line:aC) (hs:cr s0) (h8:s0.length≤8):b8 Tryz.prog C 6 [] [am k (s0.map ag.cells),.agg line.cells]
 (if ly σ s0 line 5=0 then .tup [am (gO (kP σ s0 line)) ((kP σ s0 line).map gG.cells),.int .i64 0] else .tup [.nils,.int .i64 (ly σ s0 line 5)]):=by
 refine aw (S.pureT _ (by decide)) fun H=>aj Tryz.func6 rfl (S.prim _ (by decide)) (by simp) (by kernel_rfl) ?_
 unfold Tryz.f6
 have ef:=(nW S s0 k line 5 hs).eq
 obtain ⟨v,hv⟩:∃v,v=am k (s0.map ag.cells):=⟨_,rfl⟩
 have hvl:v.leaf=true:=by rw [hv];simp
 have hvc:v.cells=[v]:=by rw [hv];simp
 have ep:=fun (X:ae) (K:AV→ae→Prop)=>zH S v hvl hvc (base:=H.length) (H:=X) K
 rw [←hv] at ef ⊢
 refine cut (fun s X=>s 0=v∧s 3=.ptr H.length 0 33 0 0∧X=H++[.rows 33 0 [line.cells]]) ?_ ?_
 ·simp [aE]
 rintro s X ⟨q0,q3,rfl⟩
 by_cases he:ly σ s0 line 5=0
 rotate_left
 ·rw [if_neg he]
  simp [q0,q3,ef,he]
  exact bb (by simp) (by simp)
 rw [if_pos he]
 refine cut (fun s X=>s 0=v∧s 3=.ptr H.length 0 33 0 0∧X=H++[.rows 33 0 [line.cells]]) ?_ ?_
 ·simp [q0,q3,ef,he]
 clear q0 q3
 rintro s X ⟨q0,q3,rfl⟩
 refine cut (fun s X=>s 0=v∧∃rb pr,s 7=.ptr pr 0 1 0 0∧X=H++[.rows 33 0 [line.cells],.rows 36 0 [line.cells++[.bool false,.bool false,.nils]],.rows 1 0 [[.ptr (H.length+1) 0 36 0 0]]]∧rb=H.length+1∧pr=H.length+2) ?_ ?_
 ·simp [q0,q3,ao,aD,Ov,Ou]
 clear q0 q3
 rintro s X ⟨q0,rb,pr,q7,rfl,hrb,hpr⟩
 obtain ⟨X0,hX0⟩:∃X0,X0=H++[.rows 33 0 [line.cells],.rows 36 0 [line.cells++[.bool false,.bool false,.nils]],.rows 1 0 [[.ptr (H.length+1) 0 36 0 0]]]:=⟨_,rfl⟩
 have hX0l:X0.length=H.length+3:=by rw [hX0];simp
 have hpr0:ax X0 pr 0 1 0=some [.ptr rb 0 36 0 0]:=by rw [hX0,hpr,hrb];simp [ax]
 have hrb0:X0[rb]?=some (.rows 36 0 [line.cells++[.bool false,.bool false,.nils]]):=by rw [hX0,hrb];simp
 have hR0:∀L,rC H.length X0.length rb line false false [] (X0++L):=fun L=>⟨⟨.nils,by rw [List.getElem?_append_left (by omega)];exact hrb0,⟨by simp,.inl ⟨rfl,rfl⟩⟩,.inl ⟨rfl,rfl⟩⟩,by omega,by omega,by omega,by simp⟩
 rw [←hX0]
 clear hX0
 refine cut (fun s X=>s 7=.ptr pr 0 1 0 0∧ax X pr 0 1 0=some [.ptr rb 0 36 0 0]∧PG H.length X0.length rb line (kP σ s0 line) X) ?_ ?_
 rotate_left
 ·rintro s X ⟨q7,hp,th,al,hR⟩
  obtain ⟨v',hr,hv'⟩:=hR.row'
  have hf:=hv'.1.freezeAt (d:=1) (k:=H.length) (by omega) (aH gG.closed _) (by simpa using hv'.2)
  have hk:gO ((kP σ s0 line).map gG.cells)=gO (kP σ s0 line):=by unfold gO;cases kP σ s0 line<;>rfl
  rw [hk] at hf
  simp [q7,hp,hr]
  exact bb hf (by simp)
 refine cut (fun s X=>s 7=.ptr pr 0 1 0 0∧s 20=.fn 54 [.ptr X0.length 0 1 0 0]∧X=X0++[.rows 1 0 [[v]]]) ?_ ?_
 ·simp [q0,q7,ep]
 clear q0 q7
 rintro s X ⟨q7,q20,rfl⟩
 rw [fI,lU]
 refine gw (f:=54) (caps:=[.ptr X0.length 0 1 0 0]) (by simp [q20]) fun l1 hr1=>?_
 refine Gi S (k:=k) (base:=H.length) (lo:=X0.length) (rb:=rb) (pr:=pr) (bl:=X0.length+1) (bs:=X0.length) hs h8 (line:=line) (by simp) rfl ?_ ?_ _ ?_
 ·rw [←hv]
  rintro LB BB hLB hBB j V d ⟨hR,hbl,hbs,hpp⟩ hd
  have hLr:∀sz g rs,LB≠.rows sz g rs:=by intro sz g rs h;rw [←hLB] at h;cases h
  have hBr:∀sz g rs,BB≠.rows sz g rs:=by intro sz g rs h;rw [←hBB] at h;cases h
  obtain ⟨L,hL⟩:∃L,L=cn σ s0 s0.length []:=⟨_,rfl⟩
  have hlow:=hR.low
  have hblV:X0.length+1<V.length:=(List.getElem?_eq_some_iff.1 hbl).1
  have hRW:=hR.setO (x:=BB) hbl (hLr 66) (by omega)
  obtain ⟨W,hW⟩:∃W,W=V.set (X0.length+1) BB++[bL.rows 32 0 [d.cells]]:=⟨_,rfl⟩
  have hRW2:=hRW.app [bL.rows 32 0 [d.cells]]
  rw [←hW] at hRW2
  have hWl:W.length=V.length+1:=by rw [hW];simp
  have hLl:L.length≤8:=by rw [hL];have:=eQ (σ:=σ) s0 s0.length [];simp at this;omega
  have hj:j<L.length:=by rw [hL];exact (List.getElem?_eq_some_iff.1 hd).1
  rw [←hL] at hd hRW2 ⊢
  unfold It
  rw [←hL]
  have hst:qo σ s0 line L (j+1)=kD σ line (qo σ s0 line L j) d (cL s0 (L.take (j+1))):=by
   conv=>lhs;unfold qo
   rw [hd]
  have hrl:=zL σ s0 line L j
  obtain ⟨Z,hRZ,hkZ,es⟩:=JY S hRW2 (by omega) d (kp:=gO (cL s0 (L.take (j+1)))) (part:=cL s0 (L.take (j+1))) (ul hs _) (Nat.le_trans (List.length_filter_le _ _) h8)
  rw [←hst] at hRZ
  obtain ⟨w,hw⟩:∃w,w=am (gO (cL s0 (L.take (j+1)))) ((cL s0 (L.take (j+1))).map ag.cells):=⟨_,rfl⟩
  have hwl:w.leaf=true:=by rw [hw];simp
  have hwc:w.cells=[w]:=by rw [hw];simp
  rw [←hw] at es ⊢
  have hWb:W[X0.length+1]?=some BB:=by rw [hW,List.getElem?_append_left (by simpa using hblV),List.getElem?_set_self hblV]
  have hZb:Z[X0.length+1]?=some BB:=hkZ.2 _ _ (by omega) hWb (hBr 66)
  have hZl:X0.length+1<Z.length:=(List.getElem?_eq_some_iff.1 hZb).1
  have hup:∀{b:Nat} {r:List AV},b≠X0.length+1→ax V b 0 1 0=some r→ax W b 0 1 0=some r:=fun {b r} hb h=>by
   rw [hW];refine bM ?_ _
   unfold ax at h ⊢
   rw [List.getElem?_set_ne (Ne.symm hb)];exact h
  have hdn:∀{b:Nat} {r:List AV},b≠X0.length+1→b≠rb→ax V b 0 1 0=some r→ax (Z.set (X0.length+1) LB) b 0 1 0=some r:=fun {b r} hb hb2 h=>by
   have h2:=te hkZ hb2 (by decide) (hup hb h)
   unfold ax at h2 ⊢
   rw [List.getElem?_set_ne (Ne.symm hb)];exact h2
  have hppW:=hup (by omega) hpp
  have hdW:ax W V.length 0 32 0=some d.cells:=by rw [hW];simp [ax]
  have hbV:H.length≤V.length:=by omega
  have hgl:∀M,(V++M)[X0.length+1]?=some LB:=fun M=>by rw [List.getElem?_append_left hblV];exact hbl
  have hsl:(V++[bL.rows 32 0 [d.cells]]).set (X0.length+1) BB=W:=by rw [hW];exact List.set_append_left _ _ hblV
  refine gy hr1 (hget:=by rw [hLB];exact hbl) (by omega) rfl (by decide) (by kernel_rfl) (by kernel_rfl) ?_
  rw [hLB,hBB]
  simp [q7,ao,aD,hbV,hgl,hsl,hppW,hdW,es,show aJ.length=32 by decide,show List.drop 32 (dig aJ)=[] by decide,hLB]
  exact ⟨hZb,rfl,hRZ.setO hZb (hBr 66) (by omega),by rw [List.getElem?_set_self hZl],hdn (by omega) (by omega) hbs,hdn (by omega) (by omega) hpp⟩
 ·rw [←hv]
  exact ⟨by rw [List.append_assoc];exact hR0 _,by simp [hX0l],by rw [List.append_assoc];simp [ax],by rw [List.append_assoc];exact bM hpr0 _⟩
 ·rintro V ⟨hR,hbl,hbs,hpp⟩
  have hlen:(X0++[bL.rows 1 0 [[v]]]).length=X0.length+1:=by simp
  have hR2:=hR.setO (x:=.dead) hbl (by intro g rs h;cases h) (by omega)
  rw [hlen,fo hbl]
  simp
  refine ⟨q7,?_,_,_,hR2⟩
  unfold ax at hpp ⊢
  rw [List.getElem?_set_ne (by omega)];exact hpp
end Go.Proofs.Ev
namespace Go.Proofs.Ev
open Go.Proofs
variable {C:bD} {σ:aZ}
theorem FC {α:Type} (p:α→Bool) (l:List α) {i:Nat} (h:i<l.length) (h0:(l.take i).any p=false):(l.take (i+1)).any p=p l[i]:=by
 rw [List.take_add_one,List.getElem?_eq_getElem h,List.any_append,h0];simp
set_option maxHeartbeats 2000000 in
theorem rm (S:ba C σ) (l:List aC) (k:SK) (id:aC) (hl:l.length≤2^20):b8 Tryz.prog C 30 [] [am k (l.map aC.cells),.agg id.cells] (.bool (l.any fun x=>aB x id)):=by
 refine aw (S.pureT _ (by decide)) fun H=>aj Tryz.func30 rfl (S.prim _ (by decide)) (by simp) (by kernel_rfl) ?_
 unfold Tryz.f30
 have e:=gZ S.toaz
 refine cut (fun s X=>s 0=am k (l.map aC.cells)∧s 3=.ptr H.length 0 33 0 0∧X=H++[.rows 33 0 [id.cells]]) ?_ ?_
 ·simp [aE]
 rintro s X ⟨q0,q3,rfl⟩
 simp [q0,q3]
 refine ay l.length (fun i s X=>s 0=am k (l.map aC.cells)∧s 3=.ptr H.length 0 33 0 0∧s 5=.int .i64 i∧X=H++[.rows 33 0 [id.cells]]∧(l.take i).any (fun x=>aB x id)=false) ?_ ?_
 ·exact ⟨q0,q3,rfl,rfl,rfl⟩
 clear q0 q3
 rintro i s X ⟨q0,q3,q5,rfl,hn⟩ hi
 by_cases h:i<l.length
 ·have hh:=FC (fun x=>aB x id) l h hn
  cases hs:aB l[i] id with
  | true =>
   have hr:(l.any fun x=>aB x id)=true:=List.any_eq_true.2 ⟨l[i],by simp,hs⟩
   simp [q0,q3,q5,h,e,hs,hr]
  | false =>
   rw [hs] at hh
   simp [q0,q3,q5,h,e,hs,au h (by omega)]
   exact fun x hx=>by simpa using List.any_eq_false.1 hh x hx
 ·have h':i=l.length:=by omega
  subst h'
  rw [List.take_length] at hn
  simp [q0,q3,q5,hn]
end Go.Proofs.Ev
namespace Go.Proofs.Ev
open Go.Proofs
variable {C:bD} {σ:aZ}
theorem JV (x:aC):aB x x=true:=by simp [aB]
end Go.Proofs.Ev
namespace Go.Proofs.Ev
open Go.Proofs
variable {σ:aZ}
end Go.Proofs.Ev
namespace Go.Proofs.Ev
open Go.Proofs
variable {σ:aZ}
def Fu (s:List ag):Prop:=∀x∈s,x.patch.dig.d=x.id.d
theorem uniq:∀{s:List ag},s.Pairwise (fun x y=>x.id.d≠y.id.d)→∀{x y:ag},x∈s→y∈s→x.id.d=y.id.d→x=y
 | [],_,x,y,hx,_,_=>by simp at hx
 | a::s,h,x,y,hx,hy,he=>by
  obtain ⟨h1,h2⟩:=List.pairwise_cons.1 h
  rcases List.mem_cons.1 hx with h3 | h3
  ·rcases List.mem_cons.1 hy with h4 | h4
   ·rw [h3,h4]
   ·rw [h3] at he;exact absurd he (h1 y h4)
  ·rcases List.mem_cons.1 hy with h4 | h4
   ·rw [h4] at he;exact absurd he.symm (h1 x h3)
   ·exact uniq h2 h3 h4 he
theorem ue {s:List ag} (hs:cr s) {x:ag} (hx:x∈s):fU s x.id.d=true∧bY s x.id.d=x.patch:=by
 have h:fU s x.id.d=true:=by unfold fU;rw [List.find?_isSome];exact ⟨x,hx,by simp⟩
 obtain ⟨_,y,hy,h1,h2⟩:=bX hs h
 refine ⟨h,?_⟩
 rw [←h2]
 rw [uniq hs.2.1 hy hx h1]
theorem jY {p:aA} (hp:p.Good) {i:Nat} {a:aG} (h:(bK σ p)[i]?=some a):a.id.d=p.dig.d∧a.id.n=(i:Int):=by
 unfold bK at h
 rw [List.getElem?_map] at h
 cases hc:(aT p)[i]? with
 | none=>rw [hc] at h;cases h
 | some y =>
  rw [hc] at h
  simp at h;subst h
  rw [hp.atoms] at hc
  have:=l6 p.changes [] (by intro i y h;simp at h) i y hc
  have hid:(ss σ p.dig y).id=bi y.id p.dig:=by
   show (vc p.dig (vG p.dig (vF p.dig (Fj p.dig y)))).id=_
   unfold vc vG vF
   repeat' split
   all_goals rfl
  rw [hid,this]
  have hz:bz aM.d=true:=by decide
  have hw:bi (bj (i:Int)) p.dig=⟨p.dig.d,(i:Int),p.dig.h,p.dig.b⟩:=by
   unfold bi bj
   rw [if_pos (by simp [hz])]
  rw [hw]
  exact ⟨rfl,rfl⟩
theorem GY {p:aA} (hp:p.Good) {a:aG} (h:a∈bK σ p) (hi:∀l,(σ.i l).Perm l):a.over.length≤2^10:=by
 unfold bK at h
 obtain ⟨y,hy,rfl⟩:=List.mem_map.1 h
 have h1:=hp.fit.atomOver y hy
 show (σ.i (y.over.map fun z=>bi z p.dig)).length≤_
 rw [(hi _).length_eq,List.length_map];exact h1
theorem AG {p:aA} (hp:p.Good) {a:aG} (h:a∈bK σ p):(bK σ p).find? (fun x=>aB x.id a.id)=some a:=by
 obtain ⟨i,hi,rfl⟩:=List.getElem_of_mem h
 obtain ⟨L,hL⟩:∃L,L=bK σ p:=⟨_,rfl⟩
 have hid:=fun j a=>jY (σ:=σ) hp (i:=j) (a:=a)
 rw [←hL] at hid
 simp only [←hL] at hi ⊢
 obtain ⟨d1,n1⟩:=hid i _ (List.getElem?_eq_getElem hi)
 rw [List.find?_eq_some_iff_getElem]
 refine ⟨JV _,i,hi,rfl,fun j hj=>?_⟩
 obtain ⟨d2,n2⟩:=hid j _ (List.getElem?_eq_getElem (by omega))
 simp [aB,n1,n2]
 exact .inr (by omega)
theorem Gl {s:List ag} (hs:cr s) (hn:Fu s) {x:ag} (hx:x∈s) {a:aG} (ha:a∈bK σ x.patch):gp σ s a.id=some a:=by
 have hp:=hs.1 x hx
 obtain ⟨i,hi⟩:=List.getElem?_of_mem ha
 have hd:=(jY hp hi).1
 rw [hn x hx] at hd
 obtain ⟨h1,h2⟩:=ue hs hx
 unfold gp
 rw [hd,h1,if_pos rfl,h2]
 exact AG hp ha
end Go.Proofs.Ev
