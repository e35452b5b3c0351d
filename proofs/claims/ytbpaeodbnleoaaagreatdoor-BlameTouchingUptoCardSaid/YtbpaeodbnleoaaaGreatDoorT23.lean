/- Part 23 of the proof that quiltlaw38.BlameTouching returns true: no statement of its own. -/
import Derived.Test.YtbpaeodbnleoaaaGreatDoorT6
import Derived.Test.YtbpaeodbnleoaaaGreatDoorT22
import Derived.Test.YtbpaeodbnleoaaaGreatDoorT12
import Derived.Lib.LaidTab
import Derived.Stop.LaidErr
import Derived.MakeChecks
import Derived.Below
import Derived.Test.YtbpaeodbnleoaaaGreatDoorT19
import Derived.Test.YtbpaeodbnleoaaaGreatDoorT20
set_option linter.all false
namespace Go.Proofs.Ev
variable {P:Program} {C:bG} {N base:Nat}
def GE (P:Program) (ops:Array Oper) (i p:Nat):Bool:=(List.range ops.size).all fun k=>decide (kQ P ops k<2)||((!lw ops k i||decide (k<p))&&(!lw ops i k||decide (p≤k)))
def vN (P:Program) (ops:Array Oper):List (Nat×Nat):=(List.range ops.size).flatMap fun i=>if kQ P ops i==1 then ((List.range (ops.size+1)).filter fun p=>GE P ops i p).map fun p=>(i,p) else []
def Oh (acc:List (Sl×ag×AV)) (H:ag) (p:Nat):ag:=match acc[p]? with | some x=>x.2.1 | none=>H
def Bf (P:Program) (C:bG) (base:Nat) (ops:Array Oper) (acc:List (Sl×ag×AV)) (H:ag) (ip:Nat×Nat):Prop :=
 match acc[ip.1]?,ops[ip.1]? with
 | some x,some o=>mE P C base ops o x.1 (Oh acc H ip.2) fun v _=>v=x.2.2
 | _,_=>False
def mD (P:Program) (C:bG) (N base:Nat) (ops:Array Oper):Nat→List Oper→Sl→ag→List (Sl×ag×AV)→(Sl→ag→Prop)→Prop
 | _,[],s,H,acc,Q=>Q s H∧∀ip∈vN P ops,Bf P C base ops acc H ip
 | i,o::l,s,H,acc,Q=>m9 N o.dst∧(kQ P ops i<2∨sZ ops s o=some true)∧mE P C base ops o s H fun v H'=>mD P C N base ops (i+1) l (pw s o.dst v) H' (acc++[(s,H,v)]) Q
theorem OR {ops:Array Oper}:∀{os:List Oper} {i:Nat} {s:Sl} {H:ag} {acc:List (Sl×ag×AV)} {Q:Sl→ag→Prop},mD P C N base ops i os s H acc Q→acc.length=i→∀{l:List AV},lT N l s→
 ∃n tr l' s' H' accF,mB P ops (fun o s H=>bL P C n base ops o s H) os l H=some (tr,l',H')∧lT N l' s'∧Q s' H'∧accF.length=i+os.length∧(∀(j:Nat) (x:Sl×ag×AV),acc[j]?=some x→accF[j]?=some x)∧
  (∀(k:Nat) (o:Oper),os[k]?=some o→∃(x:Sl×ag×AV) (lk:List AV),accF[i+k]?=some x∧lT N lk x.1∧(tr.getD k default).s=iN (looks ops o) lk∧(tr.getD k default).h=x.2.1∧(tr.getD k default).v=x.2.2∧(tr.getD k default).c=mN P ops lk o∧(kQ P ops (i+k)<2∨dL ops lk o=some true))∧
  ∀ip∈vN P ops,Bf P C base ops accF H' ip
 | [],i,s,H,acc,Q,h,hl,l,hr=>⟨0,[],l,s,H,acc,rfl,hr,h.1,by simpa using hl,fun _ _ h=>h,fun k o h=>by simp at h,h.2⟩
 | o::os,i,s,H,acc,Q,h,hl,l,hr=>by
  unfold mD at h
  obtain ⟨hd,hw,h⟩:=h
  obtain ⟨n,v,H1,h1,h3⟩:=jU h hr
  obtain ⟨m,tr,l',s',H',accF,h4,h5,h6,h7,h8,h9,h10⟩:=OR h3 (by simp [hl]) (hr.put hd v)
  have e1:bL P C (n+m) base ops o (iN (looks ops o) l) H=some (v,H1):=by rw [uU];exact iq (Nat.le_add_right n m) h1
  have e2:=lO (P:=P) (g:=fun o s H=>bL P C (n+m) base ops o s H) (fun o s H r h=>iq (Nat.le_add_left m n) h) h4
  refine ⟨n+m,⟨iN (looks ops o) l,H,v,mN P ops (iN (looks ops o) l) o⟩::tr,l',s',H',accF,?_,h5,h6,by simp at h7 ⊢;omega,fun j x hj=>h8 j x (by rw [List.getElem?_append_left (List.getElem?_eq_some_iff.1 hj).1];exact hj),?_,h10⟩
  ·simp only [mB]
   rw [e1]
   simp only
   rw [e2]
   rfl
  ·intro k o' hk
   cases k with
   | zero =>
    simp only [List.getElem?_cons_zero,Option.some.injEq] at hk
    subst hk
    refine ⟨(s,H,v),l,h8 _ _ (by rw [Nat.add_zero,←hl];simp),hr,rfl,rfl,rfl,by rw [C6];rfl,?_⟩
    rcases hw with hw | hw
    ·exact .inl hw
    ·exact .inr (hr.wanted hw)
   | succ k =>
    have:=h9 k o' (by simpa using hk)
    rw [show i+1+k=i+(k+1) by omega] at this
    exact this
theorem GW {ops:Array Oper} {acc:List (Sl×ag×AV)} {H:ag}:∀{L:List (Nat×Nat)},(∀ip∈L,Bf P C base ops acc H ip)→∃m,∀ip∈L,∃x o,acc[ip.1]?=some x∧ops[ip.1]?=some o∧∀lk,lT N lk x.1→∃Hx,(∃m',m'≤m∧bL P C m' base ops o lk (Oh acc H ip.2)=some (x.2.2,Hx))∨¬lT N lk x.1:=by
 intro L
 induction L with
 | nil=>intro _;exact ⟨0,fun ip h=>by cases h⟩
 | cons ip L ih =>
  intro h
  obtain ⟨m,hm⟩:=ih fun q hq=>h q (by simp [hq])
  have h0:=h ip (by simp)
  unfold Bf at h0
  cases hx:acc[ip.1]? with
  | none=>rw [hx] at h0;exact h0.elim
  | some x =>
   cases ho:ops[ip.1]? with
   | none=>rw [hx,ho] at h0;exact h0.elim
   | some o =>
    rw [hx,ho] at h0
    simp only at h0
    by_cases hr:∃lk,lT N lk x.1
    ·obtain ⟨lk,hr⟩:=hr
     obtain ⟨n,v,Hx,h1,h2⟩:=jU h0 hr
     refine ⟨max m n,fun q hq=>?_⟩
     rcases List.mem_cons.1 hq with rfl | hq
     ·refine ⟨x,o,hx,ho,fun lk' hr'=>⟨Hx,.inl ⟨n,Nat.le_max_right m n,?_⟩⟩⟩
      have:lk'=lk:=by
       refine List.ext_getElem? fun t=>?_
       by_cases ht:t<N
       ·have a1:=hr'.2 t
        have a2:=hr.2 t
        have b1:t<lk'.length:=by rw [hr'.1];exact ht
        have b2:t<lk.length:=by rw [hr.1];exact ht
        rw [List.getD_eq_getElem?_getD,List.getElem?_eq_getElem b1] at a1
        rw [List.getD_eq_getElem?_getD,List.getElem?_eq_getElem b2] at a2
        rw [List.getElem?_eq_getElem b1,List.getElem?_eq_getElem b2]
        simp only [Option.getD_some] at a1 a2
        rw [a1,a2]
       ·rw [List.getElem?_eq_none (by rw [hr'.1];omega),List.getElem?_eq_none (by rw [hr.1];omega)]
      rw [this,←h2];exact h1
     ·obtain ⟨x',o',a1,a2,a3⟩:=hm q hq
      refine ⟨x',o',a1,a2,fun lk' hr'=>?_⟩
      obtain ⟨Hx',h⟩:=a3 lk' hr'
      refine ⟨Hx',?_⟩
      rcases h with ⟨m',hm',h⟩ | h
      ·exact .inl ⟨m',Nat.le_trans hm' (Nat.le_max_left m n),h⟩
      ·exact .inr h
    ·refine ⟨m,fun q hq=>?_⟩
     rcases List.mem_cons.1 hq with rfl | hq
     ·exact ⟨x,o,hx,ho,fun lk' hr'=>absurd ⟨lk',hr'⟩ hr⟩
     ·exact hm q hq
theorem Bo {ops:Array Oper} {s:Sl} {H:ag} {Q:Sl→ag→Prop} (hst:wI P ops=true) (h:mD P C N base ops 0 ops.toList s H [] Q):KW P C N base ops s H Q:=by
 intro l hr
 obtain ⟨n0,tr,l',s',H',accF,h1,h2,h3,h4,_,h5,h6⟩:=OR h rfl hr
 obtain ⟨m,hm⟩:=GW (N:=N) h6
 have h1':=lO (P:=P) (g:=fun o s H=>bL P C (n0+m) base ops o s H) (fun o s H r h=>iq (Nat.le_add_right n0 m) h) h1
 refine ⟨n0+m,tr,l',s',H',h1',?_,h2,h3⟩
 obtain ⟨hlen,_⟩:=lP _ _ _ _ _ _ h1
 have hsz:ops.toList.length=ops.size:=by simp
 have hn:tr.length=ops.size:=by rw [hlen,hsz]
 have hget:∀i o,ops[i]?=some o→ops.toList[i]?=some o:=fun i o h=>by rw [Array.getElem?_toList];exact h
 have hop:∀i,i<ops.size→∃o,ops[i]?=some o:=fun i hi=>⟨_,Array.getElem?_eq_getElem hi⟩
 have hcls:∀i,i<ops.size→(tr.getD i default).c=0∨(tr.getD i default).c=kQ P ops i:=by
  intro i hi
  obtain ⟨o,ho⟩:=hop i hi
  obtain ⟨x,lk,_,_,_,_,_,hc,_⟩:=h5 i o (hget i o ho)
  rw [hc]
  unfold mN kQ
  rw [ho]
  split
  ·exact .inr rfl
  ·exact .inl rfl
 have hturn:∀i,i<ops.size→¬kQ P ops i<2→(tr.getD i default).c=kQ P ops i:=by
  intro i hi hc
  obtain ⟨o,ho⟩:=hop i hi
  obtain ⟨x,lk,_,_,_,_,_,hc',hw⟩:=h5 i o (hget i o ho)
  rw [Nat.zero_add] at hw
  rcases hw with hw | hw
  ·exact absurd hw hc
  ·rw [hc'];unfold mN kQ;rw [ho,hw]
 have hin:∀k,k∈(List.range tr.length).filter (fun i=>decide (2≤(tr.getD i default).c))↔k<ops.size∧¬kQ P ops k<2:=by
  intro k
  rw [List.mem_filter,List.mem_range,decide_eq_true_eq,hn]
  constructor
  ·rintro ⟨a,b⟩
   refine ⟨a,fun h=>?_⟩
   rcases hcls k a with h' | h'<;>omega
  ·rintro ⟨a,b⟩
   refine ⟨a,?_⟩
   rw [hturn k a b];omega
 unfold wI at hst
 rw [List.all_eq_true] at hst
 unfold jO m8
 simp only
 rw [List.all_eq_true]
 intro i hi
 have hi:i<ops.size:=by rw [←hn];exact List.mem_range.1 hi
 obtain ⟨o,ho⟩:=hop i hi
 have h5':=hst i (List.mem_range.2 hi)
 rw [ho] at h5' ⊢
 simp only [Bool.and_eq_true] at h5' ⊢
 obtain ⟨⟨⟨h6',h7⟩,h8⟩,h9⟩:=h5'
 refine ⟨⟨⟨⟨h6',?_⟩,?_⟩,?_⟩,?_⟩
 ·rw [hn]
  rw [List.all_eq_true] at h7 ⊢
  intro k hk
  have h10:=h7 k hk
  rw [Bool.or_eq_true] at h10 ⊢
  rcases h10 with h10 | h10
  ·exact .inl h10
  ·right
   simp only [Option.bind_some] at h10 ⊢
   exact h10
 ·rcases hcls i hi with h' | h'
  ·simp only [h'];rfl
  ·simp only [h']
   rw [Bool.or_eq_true] at h8 ⊢
   rcases h8 with h8 | h8
   ·exact .inl h8
   ·right
    rw [List.all_eq_true] at h8 ⊢
    intro k hk
    rw [Bool.or_eq_true,decide_eq_true_eq]
    by_cases hik:i≤k
    ·exact .inl hik
    ·right
     have h11:=h8 k (List.mem_range.2 (by omega))
     rw [Bool.or_eq_true,decide_eq_true_eq] at h11
     rcases h11 with h11 | h11
     ·exact absurd h11 ((hin k).1 hk).2
     ·exact h11
 ·rcases hcls i hi with h' | h'
  ·simp only [h'];rfl
  ·simp only [h',hn]
   rw [Bool.or_eq_true] at h9 ⊢
   rcases h9 with h9 | h9
   ·exact .inl h9
   ·right
    rw [List.all_eq_true] at h9 ⊢
    intro j hj
    have h10:=h9 j hj
    rw [Bool.or_eq_true] at h10 ⊢
    rcases h10 with h10 | h10
    ·exact .inl h10
    ·right
     rw [List.all_eq_true] at h10 ⊢
     intro k hk
     rw [Bool.or_eq_true,decide_eq_true_eq]
     by_cases hik:i≤k
     ·exact .inl hik
     ·right
      have h11:=h10 k (List.mem_range.2 (by omega))
      rw [Bool.or_eq_true,decide_eq_true_eq] at h11
      rcases h11 with h11 | h11
      ·exact absurd h11 ((hin k).1 (by rw [hn];exact hk)).2
      ·exact h11
 ·rw [Bool.or_eq_true]
  by_cases hc1:(tr.getD i default).c=1
  ·right
   have hs1:kQ P ops i=1:=by rcases hcls i hi with h' | h'<;>omega
   rw [List.all_eq_true]
   intro p hp
   rw [Bool.or_eq_true]
   by_cases hcons:((List.range tr.length).filter fun i=>decide (2≤(tr.getD i default).c)).all (fun k=>(!lw ops k i||decide (k<p))&&(!lw ops i k||decide (p≤k)))=true
   ·right
    rw [List.all_eq_true] at hcons
    have hp':p≤ops.size:=by
     rcases List.mem_append.1 hp with h | h
     ·exact Nat.le_of_lt ((hin p).1 h).1
     ·simp at h;omega
    have hcl:(i,p)∈vN P ops:=by
     unfold vN
     rw [List.mem_flatMap]
     refine ⟨i,List.mem_range.2 hi,?_⟩
     rw [if_pos (by simp [hs1]),List.mem_map]
     refine ⟨p,?_,rfl⟩
     rw [List.mem_filter,List.mem_range]
     refine ⟨by omega,?_⟩
     unfold GE
     rw [List.all_eq_true]
     intro k hk
     rw [Bool.or_eq_true,decide_eq_true_eq]
     by_cases hk2:kQ P ops k<2
     ·exact .inl hk2
     ·exact .inr (hcons k ((hin k).2 ⟨List.mem_range.1 hk,hk2⟩))
    obtain ⟨x,o',a1,a2,a3⟩:=hm _ hcl
    obtain ⟨x2,lk,b1,b2,b3,b4,b5,_⟩:=h5 i o (hget i o ho)
    rw [Nat.zero_add] at b1
    simp only at a1 a2
    rw [b1] at a1;cases a1
    rw [ho] at a2;cases a2
    obtain ⟨Hx,h⟩:=a3 lk b2
    rcases h with ⟨m',hm',h⟩ | h
    ·have hheap:(if p<tr.length then (tr.getD p default).h else H')=Oh accF H' p:=by
      unfold Oh
      by_cases hpt:p<tr.length
      ·rw [if_pos hpt]
       obtain ⟨o2,ho2⟩:=hop p (by omega)
       obtain ⟨x3,_,c1,_,_,c4,_⟩:=h5 p o2 (hget p o2 ho2)
       rw [Nat.zero_add] at c1
       rw [c1];exact c4
      ·rw [if_neg hpt,List.getElem?_eq_none (by omega)]
     rw [hheap,b3,b5]
     have:=iq (m:=n0+m) (by omega) h
     rw [uU,this]
     exact ti _
    ·exact absurd b2 h
   ·left
    simp only [Bool.not_eq_true] at hcons
    simp only [lw] at hcons
    rw [Bool.not_eq_true']
    exact hcons
  ·left
   rw [bne_iff_ne];exact hc1
def DQ (P:Program) (C:bG) (N base:Nat) (c:Code) (s:Sl) (H:ag) (Q:di):Prop:=∀l,lT N l s→∃n e l' s' H',aV P C n base c l H=some (e,l',H')∧lT N l' s'∧Q e s' H'
theorem fP {c:Code} {s:Sl} {H:ag} {Q:di} (hst:kJ P c=true) (h:je P C N base c s H Q):DQ P C N base c s H Q:=fun _ hr=>fL hst h hr
theorem eG {a b:Code} (M:Sl→ag→Prop) {s:Sl} {H:ag} {Q:di} (h1:DQ P C N base a s H (Bn M Q)) (h2:∀s H,M s H→DQ P C N base b s H Q):DQ P C N base (.seq a b) s H Q:=by
 intro l hr
 obtain ⟨n,e,l',s',H',h3,h4,h5⟩:=h1 l hr
 cases e with
 | normal =>
  obtain ⟨m,e,l2,s2,H2,h6,h7,h8⟩:=h2 s' H' h5 l' h4
  exact ⟨n+m+1,e,l2,s2,H2,by simp only [aV];rw [gn (Nat.le_add_right n m) h3];exact gn (Nat.le_add_left m n) h6,h7,h8⟩
 | exit i=>exact ⟨n+1,.exit i,l',s',H',by simp only [aV];rw [h3],h4,h5⟩
 | ret=>exact ⟨n+1,.ret,l',s',H',by simp only [aV];rw [h3],h4,h5⟩
theorem Ii {id:Nat} {ops:Array Oper} {s:Sl} {H:ag} {Q:di} (hst:wI P ops=true) (h:mD P C N base ops 0 ops.toList s H [] (Q .normal)):DQ P C N base (.region id ops true) s H Q:=by
 intro l hr
 obtain ⟨n,tr,l',s',H',h1,h2,h3,h4⟩:=Bo hst h l hr
 exact ⟨n+1,.normal,l',s',H',by simp only [aV];rw [h1];simp only;rw [if_pos h2],h3,h4⟩
theorem GY {f:FuncId} {fn:Func} {c:Code} {args:List AV} {H:ag} {K:AV→ag→Prop} (hf:P.funcs[f]?=some fn) (hc:fn.body=some c) (hp:C.prim f=none) (hn:args.length≤fn.ntmps)
 (h:DQ P C fn.ntmps base c (aG args fn.ntmps) H (Fh P fn.results.toList K)):dW P C base f args H K:=by
 obtain ⟨n,e,l',s',H',h1,h2,h3⟩:=h _ (yC hn)
 unfold Fh at h3
 have key:∀vs,eB P H' s' fn.results.toList=some vs→(e=.normal∨e=.ret)→cD P C (n+1) base f args H=some (ja vs,H'):=by
  intro vs hv he
  unfold cD
  simp only [hp,hf,hc,h1]
  rcases he with rfl | rfl<;>simp [h2.results,hv]
 cases e with
 | exit i=>exact h3.elim
 | normal =>
  simp only at h3
  split at h3
  ·rename_i vs hv;exact ⟨n+1,_,H',key vs hv (.inl rfl),h3⟩
  ·exact h3.elim
 | ret =>
  simp only at h3
  split at h3
  ·rename_i vs hv;exact ⟨n+1,_,H',key vs hv (.inr rfl),h3⟩
  ·exact h3.elim
def Gx (P:Program) (C:bG) (base:Nat) (ops:Array Oper) (acc:List (Sl×ag×AV)) (H:ag):Prop:=∀ip∈vN P ops,Bf P C base ops acc H ip
def kV (P:Program) (C:bG) (N base:Nat) (ops:Array Oper) (i:Nat) (l:List Oper) (d:Option Tmp) (s:Sl) (H:ag) (acc:List (Sl×ag×AV)) (Q:Sl→ag→Prop):AV→ag→Prop:=fun v H'=>mD P C N base ops (i+1) l (pw s d v) H' (acc++[(s,H,v)]) Q
@[simp ↓] theorem QP (ops:Array Oper) (i:Nat) (l:List Oper) (d:Option Tmp) (s:Sl) (H:ag) (acc:List (Sl×ag×AV)) (Q:Sl→ag→Prop) (v:AV) (H':ag):kV P C N base ops i l d s H acc Q v H'=mD P C N base ops (i+1) l (pw s d v) H' (acc++[(s,H,v)]) Q:=Eq.trans rfl rfl
@[simp ↓] theorem PS (ops:Array Oper) (i:Nat) (s:Sl) (H:ag) (acc:List (Sl×ag×AV)) (Q:Sl→ag→Prop):mD P C N base ops i [] s H acc Q=(Q s H∧Gx P C base ops acc H):=Eq.trans rfl rfl
@[simp ↓] theorem Pb (ops:Array Oper) (i:Nat) (d:Option Tmp) (op:Op) (t:TypeId) (pos:String) (af:Array Edge) (l:List Oper) (s:Sl) (H:ag) (acc:List (Sl×ag×AV)) (Q:Sl→ag→Prop) :
 mD P C N base ops i (⟨d,op,t,pos,af,none⟩::l) s H acc Q=(m9 N d∧dH P C base ⟨d,op,t,pos,af,none⟩ s H (kV P C N base ops i l d s H acc Q)):=by
 apply propext
 constructor
 ·rintro ⟨a,_,b⟩;exact ⟨a,b⟩
 ·rintro ⟨a,b⟩;exact ⟨a,.inr rfl,b⟩
@[simp ↓] theorem LE (ops:Array Oper) (d:Option Tmp) (op:Op) (t:TypeId) (pos:String) (af:Array Edge) (s:Sl) (H:ag) (K:AV→ag→Prop):mE P C base ops ⟨d,op,t,pos,af,none⟩ s H K=dH P C base ⟨d,op,t,pos,af,none⟩ s H K:=Eq.trans rfl rfl
theorem Jk {ops:Array Oper} {acc:List (Sl×ag×AV)} {H:ag} {L:List (Nat×Nat)} (h:vN P ops=L) (hp:∀ip∈L,Bf P C base ops acc H ip):Gx P C base ops acc H:=by unfold Gx;rw [h];exact hp
end Go.Proofs.Ev
namespace Go.Proofs.Ev
open Go.Proofs
variable {C:bG} {σ:aZ}
def fR (M:List (aI×List aI)) (d:aI):List aI :=
 match M with
 | []=>[]
 | x::M=>if aF x.1 d then x.2 else fR M d
def IV (M:List (aI×List aI)):Prop:=∀x∈M,x.2≠[]
theorem IV.add {d y:aI}:∀{M:List (aI×List aI)},IV M→IV (mV M d y)
 | [],_=>by intro x hx;simp [mV] at hx;subst hx;simp
 | x::M,h=>by
  have h1:=h x (by simp)
  have ih:=IV.add (d:=d) (y:=y) (M:=M) fun z hz=>h z (by simp [hz])
  intro z hz
  rw [mV] at hz
  split at hz
  ·rcases List.mem_cons.1 hz with rfl | hz
   ·simp
   ·exact h z (by simp [hz])
  ·rcases List.mem_cons.1 hz with rfl | hz
   ·exact h1
   ·exact ih z hz
theorem G9 (s:List ah):IV (qn σ s).2:=by
 unfold qn
 have key:∀(l:List aH) (a:KS),IV a.2→IV (l.foldl jd a).2:=by
  intro l
  induction l with
  | nil=>intro a h;exact h
  | cons x l ih =>
   intro a h
   refine ih _ ?_
   unfold jd
   split
   ·exact h
   ·have k2:∀(o:List aI) (a:KS),IV a.2→IV (o.foldl (jD x) a).2:=by
     intro o
     induction o with
     | nil=>intro a h;exact h
     | cons d o ih=>intro a h;exact ih _ h.add
    exact k2 _ _ h
 exact key _ _ (by intro x hx;cases hx)
theorem wu:∀(T:List KR) (d:aI),(∀i v,eH (T.map KR.e) d=some (i,v)→∃t,T[i]?=some t∧v=t.v∧fR (T.map KR.m) d=t.l)∧(eH (T.map KR.e) d=none→fR (T.map KR.m) d=[])
 | [],d=>by simp [eH,fR]
 | x::T,d=>by
  have ih:=wu T d
  have hc:eH ((x::T).map KR.e) d=if aF x.k d then some (0,x.v) else (eH (T.map KR.e) d).map fun p=>(p.1+1,p.2):=rfl
  have ha:fR ((x::T).map KR.m) d=if aF x.k d then x.l else fR (T.map KR.m) d:=rfl
  rw [hc,ha]
  cases hs:aF x.k d with
  | true=>exact ⟨fun i v h=>by simp at h;obtain ⟨rfl,rfl⟩:=h;exact ⟨x,rfl,rfl,by simp⟩,by simp⟩
  | false =>
   simp only [Bool.false_eq_true,if_false]
   refine ⟨fun i v h=>?_,fun h=>ih.2 (by simpa using h)⟩
   cases hp:eH (T.map KR.e) d with
   | none=>rw [hp] at h;cases h
   | some p =>
    rw [hp] at h
    cases h
    obtain ⟨t,h1,h2,h3⟩:=ih.1 p.1 p.2 hp
    exact ⟨t,by simpa using h1,h2,h3⟩
theorem EJ (S:aA C) {V:ag} {m lo:Nat} {T:List KR} (hm:V[m]?=some (.map (cC (T.map KR.e)))) (hks:yr lo T V) (hne:IV (T.map KR.m)) (d:aI) :
 (fR (T.map KR.m) d=[]∧cu Tryz.prog C V 203 (.map m) (.agg d.cells) false=some .nils)∨
 (fR (T.map KR.m) d≠[]∧∃b g,lo≤b∧V[b]?=some (.rows 33 g ((fR (T.map KR.m) d).map aI.cells))∧cu Tryz.prog C V 203 (.map m) (.agg d.cells) false=some (.sl b g 33 0 (fR (T.map KR.m) d).length)):=by
 have hf:=mn S d (T.map KR.e) 0
 obtain ⟨h1,h2⟩:=wu T d
 simp only [cu,IL,jQ S,iw,hm,hf,if_true]
 cases hp:eH (T.map KR.e) d with
 | none=>left;exact ⟨h2 hp,by simp⟩
 | some p =>
  obtain ⟨t,ht,hv,hl⟩:=h1 p.1 p.2 hp
  have htm:=List.mem_of_getElem? ht
  obtain ⟨a1,a2⟩:=hks.1 t htm
  right
  rw [hl]
  refine ⟨hne t.m (List.mem_map.2 ⟨t,htm,rfl⟩),t.b,t.g,a1,a2,?_⟩
  simp [hv,KR.v]
end Go.Proofs.Ev
namespace Go.Proofs.Ev
open Go.Proofs
variable {C:bG} {σ:aZ}
end Go.Proofs.Ev
namespace Go.Proofs.Ev
open Go.Proofs
variable {C:bG} {σ:aZ}
theorem BS {s:List ah} (hs:b8 s) (ids:List ar):b8 (cG s ids) :=
 ⟨fun x hx=>hs.1 x (List.mem_filter.1 hx).1,hs.2.1.filter _,Nat.le_trans (List.length_filter_le _ _) hs.2.2⟩
end Go.Proofs.Ev
namespace Go.Proofs.Ev
open Go.Proofs
variable {C:bG} {σ:aZ}
end Go.Proofs.Ev
namespace Go.Proofs.Ev
open Go.Proofs
variable {C:bG} {σ:aZ}
end Go.Proofs.Ev
namespace Go.Proofs.Ev
open Go.Proofs
variable {C:bG} {σ:aZ}
theorem KC (x:aI):aF x x=true:=by simp [aF]
end Go.Proofs.Ev
namespace Go.Proofs.Ev
open Go.Proofs
variable {σ:aZ}
end Go.Proofs.Ev
namespace Go.Proofs.Ev
open Go.Proofs
variable {σ:aZ}
def F1 (s:List ah):Prop:=∀x∈s,x.patch.dig.d=x.id.d
theorem uniq:∀{s:List ah},s.Pairwise (fun x y=>x.id.d≠y.id.d)→∀{x y:ah},x∈s→y∈s→x.id.d=y.id.d→x=y
 | [],_,x,y,hx,_,_=>by simp at hx
 | a::s,h,x,y,hx,hy,he=>by
  obtain ⟨h1,h2⟩:=List.pairwise_cons.1 h
  rcases List.mem_cons.1 hx with h3 | h3
  ·rcases List.mem_cons.1 hy with h4 | h4
   ·rw [h3,h4]
   ·rw [h3] at he;exact absurd he (h1 y h4)
  ·rcases List.mem_cons.1 hy with h4 | h4
   ·rw [h4] at he;exact absurd he.symm (h1 x h3)
   ·exact uniq h2 h3 h4 he
theorem qh {s:List ah} (hs:b8 s) {x:ah} (hx:x∈s):jn s x.id.d=true∧d3 s x.id.d=x.patch:=by
 have h:jn s x.id.d=true:=by unfold jn;rw [List.find?_isSome];exact ⟨x,hx,by simp⟩
 obtain ⟨_,y,hy,h1,h2⟩:=d4 hs h
 refine ⟨h,?_⟩
 rw [←h2]
 rw [uniq hs.2.1 hy hx h1]
theorem gh {p:aC} (hp:p.Good) {i:Nat} {a:aH} (h:(bj σ p)[i]?=some a):a.id.d=p.dig.d∧a.id.n=(i:Int):=by
 unfold bj at h
 rw [List.getElem?_map] at h
 cases hc:(aR p)[i]? with
 | none=>rw [hc] at h;cases h
 | some y =>
  rw [hc] at h
  simp at h;subst h
  rw [hp.atoms] at hc
  have:=oS p.changes [] (by intro i y h;simp at h) i y hc
  have hid:(pH σ p.dig y).id=ba y.id p.dig:=by
   show (qS p.dig (sF p.dig (sE p.dig (DV p.dig y)))).id=_
   unfold qS sF sE
   repeat' split
   all_goals rfl
  rw [hid,this]
  have hz:bC aO.d=true:=by decide
  have hw:ba (br (i:Int)) p.dig=⟨p.dig.d,(i:Int),p.dig.h,p.dig.b⟩:=by
   unfold ba br
   rw [if_pos (by simp [hz])]
  rw [hw]
  exact ⟨rfl,rfl⟩
theorem A1 {p:aC} (hp:p.Good) {a:aH} (h:a∈bj σ p):(bj σ p).find? (fun x=>aF x.id a.id)=some a:=by
 obtain ⟨i,hi,rfl⟩:=List.getElem_of_mem h
 obtain ⟨L,hL⟩:∃L,L=bj σ p:=⟨_,rfl⟩
 have hid:=fun j a=>gh (σ:=σ) hp (i:=j) (a:=a)
 rw [←hL] at hid
 simp only [←hL] at hi ⊢
 obtain ⟨d1,n1⟩:=hid i _ (List.getElem?_eq_getElem hi)
 rw [List.find?_eq_some_iff_getElem]
 refine ⟨KC _,i,hi,rfl,fun j hj=>?_⟩
 obtain ⟨d2,n2⟩:=hid j _ (List.getElem?_eq_getElem (by omega))
 simp [aF,n1,n2]
 exact .inr (by omega)
theorem ua {s:List ah} (hs:b8 s) (hn:F1 s) {x:ah} (hx:x∈s) {a:aH} (ha:a∈bj σ x.patch):gJ σ s a.id=some a:=by
 have hp:=hs.1 x hx
 obtain ⟨i,hi⟩:=List.getElem?_of_mem ha
 have hd:=(gh hp hi).1
 rw [hn x hx] at hd
 obtain ⟨h1,h2⟩:=qh hs hx
 unfold gJ
 rw [hd,h1,if_pos rfl,h2]
 exact A1 hp ha
end Go.Proofs.Ev
namespace Go.Proofs.Ev
open Go.Proofs
variable {σ:aZ}
theorem Db {α:Type} [DecidableEq α]:∀{l m:List α},l.Nodup→(∀x∈l,x∈m)→m.length≤l.length→(∀x∈m,x∈l)∧m.Nodup
 | [],m,_,_,h=>by
  have:m=[]:=List.length_eq_zero_iff.1 (by simpa using h)
  subst this;simp
 | a::l,m,hn,hs,h=>by
  obtain ⟨h1,h2⟩:=List.nodup_cons.1 hn
  have ha:=hs a (by simp)
  have hp:=List.perm_cons_erase ha
  have hlen:=List.length_erase_of_mem ha
  have hpos:0<m.length:=List.length_pos_of_mem ha
  obtain ⟨i1,i2⟩:=Db (l:=l) (m:=m.erase a) h2 (fun x hx=>(List.mem_erase_of_ne (fun e=>h1 (by rw [←e];exact hx))).2 (hs x (by simp [hx]))) (by simp at h;omega)
  refine ⟨fun x hx=>?_,?_⟩
  ·rcases List.mem_cons.1 (hp.mem_iff.1 hx) with e | e
   ·rw [e];simp
   ·exact List.mem_cons_of_mem _ (i1 x e)
  ·rw [hp.nodup_iff]
   exact List.nodup_cons.2 ⟨fun hc=>h1 (i1 a hc),i2⟩
def dh (l:List ar):List (List Nat):=l.map fun x=>x.d
theorem qj {l:List ar} {d:List Nat}:bV l d=true↔d∈dh l:=by rw [da];simp [dh]
theorem re {out:List ar} {d:ar} (h:(dh out).Nodup) (h1:bV out d.d=false):(dh (out++[d])).Nodup:=by
 have:dh (out++[d])=dh out++[d.d]:=by simp [dh]
 rw [this,List.nodup_append]
 refine ⟨h,by simp,fun a ha b hb=>?_⟩
 simp at hb;subst hb
 rintro rfl
 rw [qj.2 ha] at h1;cases h1
theorem iI.nodup {s:List ah} {out:List ar} (h:iI s out):(dh out).Nodup∧∀d∈dh out,d∈dh (s.map fun x=>x.id):=by
 induction h with
 | nil=>simp [dh]
 | snoc h hx h1 h2 ih =>
  refine ⟨re ih.1 h1,fun d hd=>?_⟩
  simp only [dh,List.map_append,List.mem_append,List.map_cons,List.map_nil,List.mem_singleton] at hd
  rcases hd with hd | rfl
  ·exact ih.2 d hd
  ·simp only [dh,List.map_map,List.mem_map];exact ⟨_,hx,rfl⟩
theorem iI.next {s:List ah} {O out:List ar} (h:iI s O):(∀d∈dh O,bV out d=true)∨∃x∈s,bV out x.id.d=false∧gD out (dw x.patch).2=true:=by
 induction h with
 | nil=>exact .inl (by simp [dh])
 | snoc h hx h1 h2 ih =>
  rename_i O x
  rcases ih with ih | ih
  ·by_cases hh:bV out x.id.d=true
   ·refine .inl fun d hd=>?_
    simp only [dh,List.map_append,List.mem_append,List.map_cons,List.map_nil,List.mem_singleton] at hd
    rcases hd with hd | rfl
    ·exact ih d hd
    ·exact hh
   ·refine .inr ⟨x,hx,by simpa using hh,?_⟩
    unfold gD at h2 ⊢
    rw [List.all_eq_true] at h2 ⊢
    intro y hy
    exact ih _ (qj.1 (h2 y hy))
  ·exact .inr ih
theorem jo (s:List ah):∀(n:Nat) (out:List ar),(dh out).Nodup→(dh (cr σ s n out)).Nodup
 | 0,out,h=>h
 | n+1,out,h=>by
  rw [cr]
  cases hf:s.find? (sO σ out) with
  | none=>exact h
  | some x =>
   have:=List.find?_some hf
   simp only [sO,Bool.and_eq_true,Bool.not_eq_true'] at this
   exact jo s n _ (re h this.1)
theorem wo {s:List ah} {O:List ar} (hO:iI s O) (hN:∀x∈s,∀out,gD out (dw x.patch).2=true→gD out (co σ x.patch)=true):∀(n:Nat) (out:List ar),(∀d∈dh O,bV (cr σ s n out) d=true)∨(cr σ s n out).length=out.length+n
 | 0,out=>.inr rfl
 | n+1,out=>by
  rw [cr]
  cases hf:s.find? (sO σ out) with
  | none =>
   rcases hO.next (out:=out) with h | ⟨x,hx,h1,h2⟩
   ·exact .inl h
   ·rw [List.find?_eq_none] at hf
    have:=hf x hx
    simp [sO,h1,hN x hx out h2] at this
  | some x =>
   rcases wo hO hN n (out++[x.id]) with h | h
   ·exact .inl h
   ·refine .inr ?_
    simp only
    rw [h];simp;omega
theorem Hy {s:List ah} {O:List ar} (hO:iI s O) (hl:s.length≤O.length) (hN:∀x∈s,∀out,gD out (dw x.patch).2=true→gD out (co σ x.patch)=true):s.Pairwise (fun x y=>x.id.d≠y.id.d)∧∀x∈s,bV (cr σ s s.length []) x.id.d=true:=by
 obtain ⟨n1,n2⟩:=hO.nodup
 have hD:(dh (s.map fun x=>x.id)).length=s.length:=by simp [dh]
 obtain ⟨c1,c2⟩:=Db n1 n2 (by rw [hD];simpa [dh] using hl)
 have hm:∀x∈s,x.id.d∈dh (s.map fun x=>x.id):=fun x hx=>by simp only [dh,List.map_map,List.mem_map];exact ⟨x,hx,rfl⟩
 refine ⟨?_,fun x hx=>?_⟩
 ·have:dh (s.map fun x=>x.id)=s.map fun x=>x.id.d:=by simp [dh]
  rw [this] at c2
  exact List.pairwise_map.1 c2
 ·rcases wo (σ:=σ) hO hN s.length [] with h | h
  ·exact h _ (c1 _ (hm x hx))
  ·have p1:=jo (σ:=σ) s s.length [] (by simp [dh])
   have p2:∀d∈dh (cr σ s s.length []),d∈dh (s.map fun x=>x.id):=by
    intro d hd
    simp only [dh,List.mem_map] at hd
    obtain ⟨e,he,rfl⟩:=hd
    rcases iT s _ _ e he with h | ⟨x,hx,rfl⟩
    ·simp at h
    ·exact hm x hx
   obtain ⟨q1,_⟩:=Db p1 p2 (by rw [hD];simp [dh,h])
   exact qj.2 (q1 _ (hm x hx))
theorem wO:∀(l:List ar) (a:SK×List ar) (d:List Nat),((∃x∈a.2,x.d=d)∨∃x∈l,x.d=d)→∃x∈(l.foldl fS a).2,x.d=d
 | [],a,d,h=>by simpa using h
 | y::l,a,d,h=>by
  refine wO l (fS a y) d ?_
  rcases h with h | ⟨x,hx,rfl⟩
  ·exact .inl (oh.2 (.inl h))
  ·rcases List.mem_cons.1 hx with rfl | hx
   ·exact .inl (oh.2 (.inr rfl))
   ·exact .inr ⟨x,hx,rfl⟩
theorem tc:∀(l:List aI) (a:SK×List ar) (d:List Nat),((∃x∈a.2,x.d=d)∨∃x∈l,x.d=d∧bC x.d=false)→∃x∈(l.foldl mW a).2,x.d=d
 | [],a,d,h=>by simpa using h
 | y::l,a,d,h=>by
  refine tc l (mW a y) d ?_
  have hk:(∃x∈a.2,x.d=d)→∃x∈(mW a y).2,x.d=d:=fun h=>by
   unfold mW;split
   ·exact h
   ·exact oh.2 (.inl h)
  rcases h with h | ⟨x,hx,rfl,hz⟩
  ·exact .inl (hk h)
  ·rcases List.mem_cons.1 hx with rfl | hx
   ·left
    unfold mW
    rw [if_neg (by simp [hz])]
    exact oh.2 (.inr rfl)
   ·exact .inr ⟨x,hx,rfl,hz⟩
theorem yN:∀(l:List aW) (a:SK×List ar) (d:List Nat),((∃x∈a.2,x.d=d)∨∃c∈l,∃x∈fM c,x.d=d∧bC x.d=false)→∃x∈(l.foldl qV a).2,x.d=d
 | [],a,d,h=>by simpa using h
 | y::l,a,d,h=>by
  refine yN l (qV a y) d ?_
  rcases h with h | ⟨c,hc,x,hx,h1,h2⟩
  ·exact .inl (tc _ _ _ (.inl h))
  ·rcases List.mem_cons.1 hc with rfl | hc
   ·exact .inl (tc _ _ _ (.inr ⟨x,hx,h1,h2⟩))
   ·exact .inr ⟨c,hc,x,hx,h1,h2⟩
theorem Ci {c:aW} {x:aI} (h:x∈dG c):x∈fM c:=by
 unfold dG jJ fD gK iD jb at h
 unfold fM
 simp only [List.take_length,List.map_append,List.mem_append,List.map_map] at h
 rcases h with h | h | h | h
 ·split at h
  ·simp at h;simp [h]
  ·simp at h
 ·split at h
  ·simp at h;simp [h]
  ·simp at h
 ·split at h
  ·simp at h;rcases h with h | h<;>simp [h]
  ·simp at h
 ·simp at h;simp [h]
theorem EU (hd:∀l,(σ.d l).Perm l) {p:aC} (hp:bz p=0) {d:ar} (h:d∈co σ p):∃x∈(dw p).2,x.d=d.d:=by
 obtain ⟨y,hy,hyd⟩:=(nW (σ.d (cW p)) d.d).1 ⟨d,h,rfl⟩
 have hy:=(hd _).mem_iff.1 hy
 unfold dw
 rw [if_neg (by simp [hp])]
 rw [←hyd]
 unfold cW at hy
 refine yN _ _ _ ?_
 rcases List.mem_append.1 hy with hy | hy
 ·exact .inl (wO _ _ _ (.inr ⟨y,hy,rfl⟩))
 ·right
  obtain ⟨l,hl,hyl⟩:=List.mem_flatten.1 hy
  obtain ⟨c,hc,rfl⟩:=List.mem_map.1 hl
  unfold ew at hyl
  obtain ⟨x,hx,rfl⟩:=List.mem_map.1 hyl
  obtain ⟨h1,h2⟩:=List.mem_filter.1 hx
  exact ⟨c,hc,x,Ci h1,rfl,by simpa using h2⟩
theorem ET (hd:∀l,(σ.d l).Perm l) {p:aC} (hp:bz p=0) (out:List ar) (h:gD out (dw p).2=true):gD out (co σ p)=true:=by
 unfold gD at h ⊢
 rw [List.all_eq_true] at h ⊢
 intro d hdm
 obtain ⟨x,hx,hxd⟩:=EU hd hp hdm
 rw [←hxd];exact h x hx
theorem C4:∀(l:List ah) (p:Option ar),sH p l=0→∀x∈l,bz x.patch=0∧pM x.patch=x.id.d
 | [],p,_,x,hx=>by simp at hx
 | y::l,p,h,x,hx=>by
  rw [qW] at h
  by_cases h1:bz y.patch=0
  rotate_left
  ·rw [if_pos h1] at h;exact absurd h h1
  rw [if_neg (by simpa using h1)] at h
  by_cases h2:pM y.patch=y.id.d
  rotate_left
  ·rw [if_pos h2] at h;cases h
  rw [if_neg (by simpa using h2)] at h
  rcases List.mem_cons.1 hx with e | hx
  ·rw [e];exact ⟨h1,h2⟩
  ·refine C4 l (some y.id) ?_ x hx
   cases p with
   | none=>simpa using h
   | some y' =>
    by_cases h3:0≤bZ y'.d (pM y.patch)
    ·rw [if_pos (by simpa using h3)] at h;cases h
    ·rw [if_neg (by simpa using h3)] at h;exact h
theorem Im {p:aC} (hg:eF p=false):(aR p).length≤90000:=by
 unfold eF at hg
 simp only [Bool.or_eq_false_iff,decide_eq_false_iff_not,Nat.not_lt,List.any_eq_false] at hg
 obtain ⟨h1,⟨_,h2⟩,h3⟩:=hg
 have h4:∀c∈p.changes,c.lines.length≤40∧c.over.length≤40:=by
  intro c hc
  have:=h1 c hc
  simp only [tk,pl,Bool.or_eq_true,decide_eq_true_eq,not_or,Nat.not_lt] at this
  exact ⟨this.1.1,this.2⟩
 have hb:=oW p.changes [] h4 (by simp)
 have hL:aR p=[]∨aR p=(kg p.changes []).2:=by unfold aR;split<;>simp
 rcases hL with h | h<;>rw [h]
 ·simp
 ·have:=hb.1;simp at this;omega
structure pN (σ:aZ) (s:List ah):Prop where
 good:b8 s
 n:s.length≤8
 named:F1 s
 cov:∀x∈s,bV (cr σ s s.length []) x.id.d=true
theorem Jw (hd:∀l,(σ.d l).Perm l) {s:List ah} (hz:om s) (h:nd s=true):pN σ s:=by
 unfold nd at h
 simp only [Bool.and_eq_true,Bool.not_eq_true',beq_iff_eq] at h
 obtain ⟨h1,h2⟩:=h
 have hF:=wF hz h1
 unfold oY at h2
 split at h2
 ·omega
 rename_i c1
 split at h2
 ·omega
 split at h2
 ·omega
 rename_i c3
 have k1:=C4 s none (by omega)
 have hsm:∀x∈s,(aR x.patch).length≤90000:=by
  intro x hx
  refine Im ?_
  unfold ko at h1
  simp only [Bool.or_eq_false_iff,List.any_eq_false] at h1
  have:=h1.1 x (by rw [List.take_of_length_le (by have:=hF.n;omega)];exact hx)
  simpa using this
 have hg:∀x∈s,x.patch.Good:=fun x hx=>⟨hF.p x hx,(k1 x hx).1,hsm x hx⟩
 obtain ⟨o1,o2⟩:=Hy (σ:=σ) (qv s s.length [] .nil) (by omega) (fun x hx out=>ET hd (k1 x hx).1 out)
 refine ⟨⟨hg,o1,by have:=hF.n;omega⟩,hF.n,fun x hx=>?_,o2⟩
 have:=(k1 x hx).2
 unfold pM at this
 rw [if_pos (k1 x hx).1] at this
 exact this
end Go.Proofs.Ev
namespace Go.Proofs.Ev
open Go.Proofs
variable {C:bG} {σ:aZ}
end Go.Proofs.Ev
namespace Go.Proofs.Ev
open Go.Proofs
variable {N:gA}
def IQ:AV:=.tup [.lst [(AP d1 3).cells++[.str [121],.int .i64 0]] false,.int .i64 0]
def Ic:List F4:=⟨48,[sR],.lst [.str [102]::(AP d1 0).cells] false⟩::⟨9,[sR,.agg (AP d1 0).cells],.tup [PG,.int .i64 0]⟩::⟨50,[PG],.lst [[.bool false,.lst [[.int .i64 1]] false,.nils]] false⟩::oL
set_option maxRecDepth 100000 in
theorem FC:((iG.v (r5 Tryz.prog (tC Ic) 3000 (.func 0 16 [sR,.str [102]] []))).bind fun r=>aJ r.2 0 6 r.1)=some IQ:=by kernel_rfl
def Ie:List F4:=⟨14,[.nils,.agg p1.cells],.tup [KD,.agg d1.cells,.int .i64 0]⟩::⟨14,[KD,.agg p2.cells],.tup [sR,.agg d2.cells,.int .i64 0]⟩::⟨16,[sR,.str [102]],IQ⟩ ::
 ⟨17,[sR,.agg (AP d1 2).cells],.tup [.lst [.int .i64 1::(d1.cells++(AP d1 2).cells),.int .i64 2::(d2.cells++(AP d2 0).cells)] false,.int .i64 0]⟩::⟨6,[sR,.agg (AP d1 0).cells],.tup [.lst [d1.cells,d2.cells] false,.int .i64 0]⟩::oL
set_option maxRecDepth 100000 in
theorem FB:((iG.v (r5 Tryz.prog (tC Ie) 3000 (.func 0 5 [] []))).bind fun r=>aJ r.2 0 6 r.1)=some (.bool true):=by kernel_rfl
theorem Id (hT:fC Tryz.prog N) (hG:jr N) (hL:lc N):∀r∈Ic,mS N r:=by
 have h0:=Aw hT hG hL
 intro r hr
 simp only [Ic,List.mem_cons] at hr
 rcases hr with rfl | rfl | rfl | hr
 ·exact iU hT h0 FE (by kernel_rfl) (by kernel_rfl) ⟨_,Tryz.func48,rfl⟩
 ·exact iU hT h0 MD (by kernel_rfl) (by kernel_rfl) ⟨_,Tryz.func9,rfl⟩
 ·exact iU hT h0 Ay (by kernel_rfl) (by kernel_rfl) ⟨_,Tryz.func50,rfl⟩
 ·exact h0 r hr
theorem If (hT:fC Tryz.prog N) (hG:jr N) (hL:lc N):∀r∈Ie,mS N r:=by
 have h0:=Aw hT hG hL
 intro r hr
 simp only [Ie,List.mem_cons] at hr
 rcases hr with rfl | rfl | rfl | rfl | rfl | hr
 ·exact iU hT h0 Ig (by kernel_rfl) (by kernel_rfl) ⟨_,Tryz.func14,rfl⟩
 ·exact iU hT h0 Ih (by kernel_rfl) (by kernel_rfl) ⟨_,Tryz.func14,rfl⟩
 ·exact iU hT (Id hT hG hL) FC (by kernel_rfl) (by kernel_rfl) ⟨_,Tryz.func16,rfl⟩
 ·exact iU hT h0 CK (by kernel_rfl) (by kernel_rfl) ⟨_,Tryz.func17,rfl⟩
 ·exact iU hT h0 FF (by kernel_rfl) (by kernel_rfl) ⟨_,Tryz.func6,rfl⟩
 ·exact h0 r hr
def rz:Nat→List AV→ag→Option (AV×ag):=KH [⟨5,[],.bool true⟩] 5
theorem Gj (hT:fC Tryz.prog N) (hG:jr N) (hL:lc N):fZ Tryz.prog N 5 rz :=
 IB (fun r hr=>by
  rw [List.mem_singleton.1 hr]
  exact iU hT (If hT hG hL) FB rfl rfl ⟨_,Tryz.func5,rfl⟩) rfl
theorem DX:cE Tryz.prog (dE rz) 5 [] [] (.bool true):=by
 intro base H
 have h1:(dE rz).pure 5=false:=by kernel_rfl
 have h2:(dE rz).frz 5=true:=by kernel_rfl
 refine ⟨2,?_⟩
 simp only [dp,h1,h2,Bool.false_eq_true,if_false,if_true,List.append_nil,List.mapM_nil,cD,Kk]
 rfl
end Go.Proofs.Ev
namespace Go.Proofs.Ev
open Go.Proofs Go.RowKit
open Go.Proofs.YtbpaeodbnleoaaaGreatDoor (Rows.laid_math_bits_deBruijn32tab Rows.laid_math_bits_deBruijn64tab Rows.laid_internal_strconv_uint64pow10)
section
variable {W:World}
def wg (W:World):gA:=⟨W.heap.size,fun g T=>(g=1→T=382)∧(g=2→T=5),fun cb=>match W.heap[cb]? with | some (.cells c T fr)=>some (c,T,fr) | _=>none⟩
theorem IE:jr (wg W):=⟨fun _ h=>h.1 rfl,fun _ h=>h.2 rfl⟩
theorem IG:(List.range Tryz.prog.types.size).all (fun t=>(dO Tryz.prog t != 1||t==382)&&(c8 Tryz.prog t 1 != 2||t==5))=true:=by kernel_rfl
theorem IC:sY Tryz.prog=true:=by kernel_rfl
theorem MO:fC Tryz.prog (wg W):=by
 have all:∀t:TypeId,t<Tryz.prog.types.size→(dO Tryz.prog t=1→t=382)∧(c8 Tryz.prog t 1=2→t=5):=by
  intro t ht
  have:=List.all_eq_true.1 IG t (List.mem_range.2 ht)
  simp only [Bool.and_eq_true,Bool.or_eq_true,bne_iff_ne,ne_eq,beq_iff_eq] at this
  exact ⟨fun h=>this.1.resolve_left fun h1=>h1 h,fun h=>this.2.resolve_left fun h1=>h1 h⟩
 refine ⟨fun t h=>?_,fun t h=>?_⟩
 ·by_cases ht:t<Tryz.prog.types.size
  ·exact ⟨fun _=>(all t ht).1 h,fun e=>by cases e⟩
  ·exact absurd h (IF IC ht)
 ·by_cases ht:t<Tryz.prog.types.size
  ·exact ⟨fun e=>(by cases e),fun _=>(all t ht).2 h⟩
  ·exact absurd h (GB ht)
theorem Di:HR (wg W) vn [] W:={
 low:=Nat.le_refl _
 kept cb c T fr h:=by
  refine ⟨?_,He cb⟩
  simp only [wg] at h
  split at h
  ·rename_i c' T' fr' hh;cases h;exact hh
  ·cases h
 dead b _:=rfl
 base b L h:=by cases h
 inj b b' L L' h:=by cases h
 resn b L h:=by cases h
 ress cb h:=h.elim
 rows b esz g rs h:=by simp at h
 map b es h:=by simp at h
 loop b r p s ps a c h:=by simp at h
 it b m k st h:=by simp at h }
theorem JO (h:Lib.TabIs Tryz.prog W "internal/strconv.uint64pow10" .u64 Lib.pow10Tab):lc (wg W):=by
 intro φ w hk
 unfold Lib.TabIs World.var? at h ⊢
 cases hg:Tryz.prog.globalNamed "internal/strconv.uint64pow10" with
 | none=>rw [hg] at h;cases h
 | some g =>
  rw [hg] at h
  simp only [Option.bind_some] at h ⊢
  cases hh:W.heap[g]? with
  | none=>rw [hh] at h;cases h
  | some o =>
   rw [hh] at h
   cases o with
   | cells c T fr =>
    have:=(hk g c T fr (by simp [wg,hh])).1
    rw [this];exact h
   | _=>cases h
theorem Gm {φ':fE} {n n':Nat} {w':World} (h:cj vn n W φ' n' w'):Below W.heap.size W w':={
 os:=h.env.1
 tape:=h.env.2.1
 output:=h.env.2.2
 size:=h.size
 block k hk:=by
  rw [Array.getElem?_eq_getElem hk]
  exact h.same k _ (Array.getElem?_eq_getElem hk) (He k) }
def Hb:List (String×DataW Unit):=[("math/bits.deBruijn32tab",Rows.laid_math_bits_deBruijn32tab),("math/bits.deBruijn64tab",Rows.laid_math_bits_deBruijn64tab),("internal/strconv.uint64pow10",Rows.laid_internal_strconv_uint64pow10)]
theorem HE:(Rows.laid_internal_strconv_uint64pow10:DataW Unit)=Lib.tabData .u64 Lib.pow10Tab:=by kernel_rfl
theorem MN (h:laidMetH Tryz.prog Hb W):Lib.TabIs Tryz.prog W "internal/strconv.uint64pow10" .u64 Lib.pow10Tab:=by
 rw [MakeChecks.laidMetH_plain _ _ _ (by kernel_rfl)] at h
 have h1:=h.tail.tail
 rw [HE] at h1
 exact Lib.tabIs_of_head (g:=1) (t:=418) (e:=218) (n:=20) (by kernel_rfl) (by kernel_rfl) Tryz.underlying418 Tryz.underlying218 (by kernel_rfl) (by kernel_rfl) h1
end
end Go.Proofs.Ev
namespace Go.Proofs.Ev
open Go.Proofs Go.Sort
variable {σ:aZ}
theorem EX {x:aI} (h:aF x aO=true):bC x.d=true:=by
 rw [ct h];decide
theorem Dk {c:aW} (hc:c.Good) {x:aI} (hx:x∈fM c) (hz:bC x.d=false):x∈dG c:=by
 have ht:=hc.tidy
 unfold su at ht
 simp only [Bool.and_eq_true,Bool.or_eq_true,decide_eq_true_eq] at ht
 obtain ⟨⟨⟨⟨⟨⟨⟨_,t2⟩,t3⟩,_⟩,_⟩,t6⟩,_⟩,t8⟩:=ht
 have hne:∀{y:aI},x=y→aF y aO=true→False:=fun e h=>by rw [←e] at h;rw [EX h] at hz;cases hz
 unfold dG jJ
 simp only [List.map_append,List.mem_append]
 unfold fM at hx
 rcases List.mem_append.1 hx with hx | hx
 ·simp only [List.mem_cons,List.not_mem_nil,or_false] at hx
  rcases hx with hx | hx | hx | hx
  ·left
   unfold fD
   rcases t2 with t2 | t2
   ·simp at t2
    rw [if_pos (by omega),hx];simp
   ·exact (hne hx t2).elim
  ·right;left
   unfold gK
   rcases t3 with t3 | t3
   ·cases hr:aF c.parent nI with
    | true =>
     rw [←hx] at hr
     rw [ct hr] at hz
     exact absurd hz (by decide)
    | false=>rw [if_pos ⟨t3,rfl⟩,hx];simp
   ·exact (hne hx t3.1).elim
  ·right;right;left
   unfold iD
   rcases t6 with t6 | t6
   ·simp at t6
    rw [if_pos t6,hx];simp
   ·exact (hne hx t6.1).elim
  ·right;right;left
   unfold iD
   rcases t6 with t6 | t6
   ·simp at t6
    rw [if_pos t6,hx];simp
   ·exact (hne hx t6.2).elim
 ·right;right;right
  unfold jb
  rw [List.take_length,List.map_map]
  exact List.mem_map.2 ⟨x,hx,rfl⟩
def PZ (s:List ah):Prop:=s.Pairwise fun x y=>bZ x.id.d y.id.d<0
theorem yO:∀(l:List ah) (p:Option ar),sH p l=0→PZ l∧∀d,p=some d→∀x∈l,bZ d.d x.id.d<0
 | [],p,_=>⟨.nil,fun _ _ x hx=>by simp at hx⟩
 | y::l,p,h=>by
  rw [qW] at h
  by_cases h1:bz y.patch=0
  rotate_left
  ·rw [if_pos h1] at h;exact absurd h h1
  rw [if_neg (by simpa using h1)] at h
  by_cases h2:pM y.patch=y.id.d
  rotate_left
  ·rw [if_pos h2] at h;cases h
  rw [if_neg (by simpa using h2)] at h
  have h3:sH (some y.id) l=0∧∀d,p=some d→bZ d.d y.id.d<0:=by
   cases p with
   | none=>exact ⟨by simpa using h,fun d hd=>by cases hd⟩
   | some d =>
    by_cases h3:0≤bZ d.d (pM y.patch)
    ·rw [if_pos (by simpa using h3)] at h;cases h
    ·rw [if_neg (by simpa using h3)] at h
     exact ⟨h,fun d' hd=>by cases hd;rw [←h2];omega⟩
  obtain ⟨a1,a2⟩:=yO l (some y.id) h3.1
  have a2:=a2 y.id rfl
  refine ⟨List.pairwise_cons.2 ⟨a2,a1⟩,fun d hd x hx=>?_⟩
  rcases List.mem_cons.1 hx with rfl | hx
  ·exact h3.2 d hd
  ·have t:=od.trans d y.id x.id (by simpa [ltOf] using h3.2 d hd) (by simpa [ltOf] using a2 x hx)
   simpa [ltOf] using t
end Go.Proofs.Ev
namespace Go.Proofs.Ev
open Go.Proofs Go.Sort
variable {σ:aZ}
theorem vL (a b:aI):dA b a = - dA a b:=by
 unfold dA
 have h:=ji a.d b.d
 by_cases h0:bZ a.d b.d=0
 ·rw [if_pos h0,if_pos (by omega)]
  by_cases h1:a.n<b.n
  ·rw [if_neg (by omega),if_pos h1,if_pos h1];rfl
  ·by_cases h2:b.n<a.n
   ·rw [if_pos h2,if_neg h1,if_pos h2]
   ·rw [if_neg h2,if_neg h1,if_neg h1,if_neg h2];rfl
 ·rw [if_neg h0,if_neg (by omega)];exact h
theorem Ec (a:aI):dA a a=0:=by have:=vL a a;omega
theorem Bi {a b c:aI} (h1:dA a b<0) (h2:dA b c<0):dA a c<0:=by
 have:=pF.trans a b c (by simpa [ltOf] using h1) (by simpa [ltOf] using h2)
 simpa [ltOf] using this
def C0 (l:List aI):Prop:=l.Pairwise fun a b=>dA a b<0
theorem yf {l:List aI} (h:C0 l):l.Nodup:=by
 refine List.Pairwise.imp (fun {a b} h e=>?_) h
 rw [e,Ec] at h;omega
theorem uW:∀{l:List aI},pT l=true→C0 l
 | [],_=>.nil
 | [a],_=>List.pairwise_singleton _ _
 | a::b::l,h=>by
  rw [pT,Bool.and_eq_true] at h
  have ih:=uW h.2
  refine List.pairwise_cons.2 ⟨fun x hx=>?_,ih⟩
  have hab:dA a b<0:=by simpa using h.1
  rcases List.mem_cons.1 hx with rfl | hx
  ·exact hab
  ·exact Bi hab ((List.pairwise_cons.1 ih).1 x hx)
def gZ (σ:aZ):Prop:=∀l,(σ.i l).Perm l∧(σ.i l).Pairwise fun a b=>¬dA b a<0
theorem AA:gZ ⟨iF dA,iF fun a b:ar=>bZ a.d b.d⟩:=by
 intro l
 refine ⟨kH pF l,?_⟩
 have h:=(pdq_sorts (ltOf dA) pF l.toArray 0 l.toArray.size (Lib.bitLen l.toArray.size) true true (Nat.zero_le _) (Nat.le_refl _) (Or.inl rfl))
 obtain ⟨h1,h2⟩:=h
 have hs:=h1.1
 rw [List.pairwise_iff_getElem]
 intro i j hi hj hij
 have h3:=h2 i j (Nat.zero_le _) hij (by rw [←hs];simpa [iF] using hj)
 simp only [ltOf,decide_eq_false_iff_not] at h3
 have g:∀k (hk:k<(iF dA l).length),(iF dA l)[k]=(pdq (ltOf dA) l.toArray 0 l.toArray.size (Lib.bitLen l.toArray.size) true true)[k]!:=fun k hk=>by
  unfold iF at hk ⊢
  rw [Array.getElem_toList,getElem!_pos _ k (by simpa using hk)]
 show ¬dA (iF dA l)[j] (iF dA l)[i]<0
 rw [g j hj,g i hi];exact h3
end Go.Proofs.Ev
namespace Go.Proofs.Ev
open Go.Proofs Go.Sort
variable {σ:aZ}
theorem Dq {c:aW} {first:Nat} {y:aH} (h:y∈cg c first):y.over=[]∨y.over=c.over:=by
 unfold cg at h
 repeat' split at h
 all_goals first
  | (simp at h;subst h;first | exact .inl rfl | exact .inr rfl)
  | skip
 rcases List.mem_append.1 h with h | h
 ·obtain ⟨i,_,rfl⟩:=List.mem_map.1 h
  exact .inl rfl
 ·obtain ⟨i,_,rfl⟩:=List.mem_map.1 h
  exact .inl rfl
theorem l4:∀(l:List aW) (own:List aH) (y:aH),y∈bk l own→y∈own∨y.over=[]∨∃c∈l,y.over=c.over
 | [],own,y,h=>.inl h
 | c::l,own,y,h=>by
  rcases l4 l _ y h with h | h | ⟨c',hc,h⟩
  ·rcases List.mem_append.1 h with h | h
   ·exact .inl h
   ·rcases Dq h with h | h
    ·exact .inr (.inl h)
    ·exact .inr (.inr ⟨c,by simp,h⟩)
  ·exact .inr (.inl h)
  ·exact .inr (.inr ⟨c',by simp [hc],h⟩)
def I4 (p:aC):Prop:=∀c∈p.changes,∀x∈c.over,bC x.d=false→x.d≠p.dig.d
theorem AN {p:aC} (hp:p.Good) (hf:I4 p) {y:aH} (hy:y∈aR p):(y.over.map fun z=>ba z p.dig).Nodup:=by
 rw [hp.atoms] at hy
 rcases l4 _ _ y hy with h | h | ⟨c,hc,h⟩
 ·simp at h
 ·rw [h];exact List.nodup_nil
 ·rw [h]
  have hs:=yf (uW (hp.good hc).asc)
  rw [List.nodup_iff_pairwise_ne] at hs ⊢
  refine List.pairwise_map.2 ?_
  refine List.Pairwise.imp_of_mem (fun {a b} ha hb hne he=>hne ?_) hs
  have ha:=hf c hc a ha
  have hb:=hf c hc b hb
  unfold ba at he
  cases za:bC a.d with
  | true =>
   cases zb:bC b.d with
   | true =>
    have hd:a.d=b.d:=by unfold bC at za zb;rw [of_decide_eq_true za,of_decide_eq_true zb]
    have hn:a.n=b.n:=by
     rw [za,zb] at he
     simp only [Bool.true_and,decide_eq_true_eq] at he
     by_cases h1:0≤a.n<;>by_cases h2:0≤b.n
     ·rw [if_pos h1,if_pos h2] at he;have:=congrArg aI.n he;simpa using this
     ·rw [if_pos h1,if_neg h2] at he;have:=congrArg aI.n he;simp only at this;omega
     ·rw [if_neg h1,if_pos h2] at he;have:=congrArg aI.n he;simp only at this;omega
     ·rw [if_neg h1,if_neg h2] at he;exact congrArg aI.n he
    exact ct ((kF (a:=a) (b:=b)).2 ⟨hd,hn⟩)
   | false =>
    rw [za,zb] at he
    simp only [Bool.true_and,Bool.false_and,decide_eq_true_eq,Bool.false_eq_true,if_false] at he
    split at he
    ·exact absurd (congrArg aI.d he).symm (hb zb)
    ·exact he
  | false =>
   cases zb:bC b.d with
   | true =>
    rw [za,zb] at he
    simp only [Bool.true_and,Bool.false_and,decide_eq_true_eq,Bool.false_eq_true,if_false] at he
    split at he
    ·exact absurd (congrArg aI.d he) (ha za)
    ·exact he
   | false =>
    rw [za,zb] at he
    simpa using he
theorem qc {a b:ar} (h:a.d=b.d):a=b:=by
 cases a;cases b;simp only at h;subst h;rfl
theorem uv (s:List ah):∀(n:Nat) (out:List ar),∃m,cr σ s n out=out++m
 | 0,out=>⟨[],by rw [cr];simp⟩
 | n+1,out=>by
  rw [cr]
  cases s.find? (sO σ out) with
  | none=>exact ⟨[],by simp⟩
  | some x =>
   obtain ⟨m,hm⟩:=uv s n (out++[x.id])
   exact ⟨x.id::m,by simp only;rw [hm];simp⟩
theorem uw {s:List ah}:∀(n:Nat) (out:List ar) (e:List Nat),bV (cr σ s n out) e=true→bV out e=false→∃out' x,x∈s∧x.id.d=e∧sO σ out' x=true∧∃m,cr σ s n out=out'++x.id::m
 | 0,out,e,h,h0=>by rw [cr] at h;rw [h] at h0;cases h0
 | n+1,out,e,h,h0=>by
  rw [cr] at h ⊢
  cases hf:s.find? (sO σ out) with
  | none=>rw [hf] at h;simp only at h;rw [h] at h0;cases h0
  | some x =>
   rw [hf] at h
   simp only at h ⊢
   have hx:=List.mem_of_find?_eq_some hf
   have ho:=List.find?_some hf
   by_cases he:x.id.d=e
   ·refine ⟨out,x,hx,he,ho,?_⟩
    obtain ⟨m,hm⟩:=uv (σ:=σ) s n (out++[x.id])
    exact ⟨m,by rw [hm];simp⟩
   ·refine uw n (out++[x.id]) e h ?_
    unfold bV at h0 ⊢
    rw [List.any_append,h0]
    simpa using he
theorem Jx (hd:∀l,(σ.d l).Perm l) {s:List ah} (F:pN σ s) {x:ah} (hx:x∈s):I4 x.patch:=by
 intro c hc y hy hz he
 obtain ⟨out,x',hx',h1,h2,_⟩:=uw (σ:=σ) _ _ _ (F.cov x hx) rfl
 have hxx:=uniq F.good.2.1 hx' hx h1
 subst hxx
 have hp:=F.good.1 x' hx'
 simp only [sO,Bool.and_eq_true,Bool.not_eq_true'] at h2
 obtain ⟨h3,h4⟩:=h2
 unfold gD at h4
 rw [List.all_eq_true] at h4
 have hm:y.dv∈cW x'.patch:=by
  unfold cW
  refine List.mem_append.2 (.inr (List.mem_flatten.2 ⟨_,List.mem_map.2 ⟨c,hc,rfl⟩,?_⟩))
  unfold ew
  exact List.mem_map.2 ⟨y,List.mem_filter.2 ⟨Dk (hp.good hc) (by unfold fM;simp [hy]) hz,by simp [hz]⟩,rfl⟩
 obtain ⟨z,hzm,hzd⟩:=(nW (σ.d (cW x'.patch)) y.d).2 ⟨y.dv,(hd _).mem_iff.2 hm,rfl⟩
 have:=h4 z hzm
 rw [hzd,he,F.named x' hx'] at this
 rw [this] at h3;cases h3
end Go.Proofs.Ev
namespace Go.Proofs.Ev
open Go.Proofs Go.Sort
variable {σ:aZ}
def rk (l:List aI) (d:aI):Bool:=l.any fun x=>aF x d
def xR (out:List aH) (d:aI):Bool:=out.any fun y=>decide (y.kind=7)&&rk y.over d
def sM (x:aH) (out:List aH):List aH:=if xR out x.id then out else x::out
def iH (l:List aH):List aH:=l.foldr sM []
def JL (l:List aH) (d:aI):List aI:=(l.filter fun y=>rk y.over d).map fun y=>y.id
theorem we (d d' y:aI):∀M:List (aI×List aI),fR (mV M d y) d'=fR M d'++if aF d d' then [y] else []
 | []=>by simp only [mV,fR];cases aF d d'<;>simp
 | x::M=>by
  rw [mV,fR]
  cases h:aF x.1 d with
  | true =>
   have hx:=ct h
   rw [if_pos rfl,fR,hx]
   cases h2:aF d d'<;>simp
  | false =>
   rw [if_neg (by decide),fR,we d d' y M]
   cases h2:aF x.1 d' with
   | true =>
    have hx:=ct h2
    have h3:aF d d'=false:=by rw [←hx,nK];exact h
    simp [h3]
   | false=>simp
theorem JF (a:List aI) (x d:aI):gO (oQ a x) d=(gO a d||aF x d):=by
 unfold oQ
 split
 ·rename_i hx
  cases h:aF x d with
  | true=>rw [←ct h,hx];rfl
  | false=>simp
 ·simp [gO]
theorem Hw (x:aH) (d:aI):∀(l:List aI) (a:KS),gO (l.foldl (jD x) a).1 d=(gO a.1 d||(decide (x.kind=7)&&rk l d))∧fR (l.foldl (jD x) a).2 d=fR a.2 d++(l.filter fun z=>aF z d).map fun _=>x.id
 | [],a=>by simp [rk]
 | z::l,a=>by
  obtain ⟨h1,h2⟩:=Hw x d l (jD x a z)
  rw [List.foldl_cons,h1,h2]
  unfold jD
  refine ⟨?_,?_⟩
  ·simp only
   by_cases hk:x.kind=7
   ·rw [if_pos hk,JF];simp [hk,rk,Bool.or_assoc]
   ·rw [if_neg hk];simp [hk]
  ·simp only
   rw [we,List.filter_cons]
   cases aF z d<;>simp
theorem Ht {l:List aI} (h:l.Nodup) (d z:aI):((l.filter fun x=>aF x d).map fun _=>z)=if rk l d then [z] else []:=by
 induction l with
 | nil=>rfl
 | cons x l ih =>
  obtain ⟨h1,h2⟩:=List.nodup_cons.1 h
  have ih:=ih h2
  rw [List.filter_cons]
  have hc:rk (x::l) d=(aF x d||rk l d):=by simp [rk]
  rw [hc]
  cases hx:aF x d with
  | true =>
   have hl:rk l d=false:=by
    rw [Bool.eq_false_iff]
    intro h3
    obtain ⟨y,hy,hyd⟩:=List.any_eq_true.1 h3
    rw [←ct hx] at hyd
    rw [ct hyd] at hy
    exact h1 hy
   rw [hl] at ih
   simp only [Bool.true_or,if_true,List.map_cons]
   rw [ih];simp
  | false=>simpa using ih
theorem AK:∀(l:List aH) (hn:∀x∈l,x.over.Nodup) (d:aI),gO (l.reverse.foldl jd ([],[])).1 d=xR (iH l) d∧fR (l.reverse.foldl jd ([],[])).2 d=(JL (iH l) d).reverse
 | [],_,d=>by simp [gO,xR,iH,fR,JL]
 | x::l,hn,d=>by
  have ih:∀e,gO (l.reverse.foldl jd ([],[])).1 e=xR (iH l) e∧fR (l.reverse.foldl jd ([],[])).2 e=(JL (iH l) e).reverse:=fun e=>AK l (fun y hy=>hn y (by simp [hy])) e
  have hx:=hn x (by simp)
  rw [List.reverse_cons,List.foldl_append]
  simp only [List.foldl_cons,List.foldl_nil]
  have he:iH (x::l)=sM x (iH l):=rfl
  rw [he]
  obtain ⟨a,ha⟩:∃a,a=l.reverse.foldl jd ([],[]):=⟨_,rfl⟩
  rw [←ha] at ih ⊢
  rw [jd,sM,(ih x.id).1]
  cases hr:xR (iH l) x.id with
  | true=>simp only [if_true];exact ih d
  | false =>
   simp only [Bool.false_eq_true,if_false]
   obtain ⟨h1,h2⟩:=Hw x d x.over a
   rw [h1,h2,(ih d).1,(ih d).2,Ht hx]
   refine ⟨?_,?_⟩
   ·unfold xR;rw [List.any_cons,Bool.or_comm]
   ·unfold JL
    rw [List.filter_cons]
    cases rk x.over d<;>simp
theorem lB (l:List aH):(iH l).Sublist l:=by
 induction l with
 | nil=>exact .slnil
 | cons x l ih =>
  show (sM x (iH l)).Sublist (x::l)
  unfold sM
  split
  ·exact ih.cons x
  ·exact ih.cons₂ x
end Go.Proofs.Ev
namespace Go.Proofs.Ev
open Go.Proofs Go.Sort
variable {σ:aZ}
structure jt (s:List ah):Prop where
 good:b8 s
 asc:PZ s
 named:F1 s
 free:∀x∈s,I4 x.patch
theorem Ka (hd:∀l,(σ.d l).Perm l) {s:List ah} (F:pN σ s) (ha:PZ s):jt s:=⟨F.good,ha,F.named,fun _ hx=>Jx hd F hx⟩
theorem jt.keep {s:List ah} (P:jt s) (ids:List ar):jt (cG s ids) :=
 ⟨BS P.good ids,P.asc.filter _,fun x hx=>P.named x (List.mem_filter.1 hx).1,fun x hx=>P.free x (List.mem_filter.1 hx).1⟩
def E4 (σ:aZ) (s:List ah) (L:List ar):List aH:=(L.map fun d=>bj σ (d3 s d.d)).flatten
def I9 (σ:aZ) (s:List ah):List aH:=(s.map fun x=>bj σ x.patch).flatten
theorem mX {s:List ah} {a:aH}:a∈I9 σ s↔∃x∈s,a∈bj σ x.patch:=by
 unfold I9
 rw [List.mem_flatten]
 constructor
 ·rintro ⟨l,hl,ha⟩
  obtain ⟨x,hx,rfl⟩:=List.mem_map.1 hl
  exact ⟨x,hx,ha⟩
 ·rintro ⟨x,hx,ha⟩
  exact ⟨_,List.mem_map.2 ⟨x,hx,rfl⟩,ha⟩
theorem zl {s:List ah} (P:jt s) (id:aI):(I9 σ s).find? (fun x=>aF x.id id)=gJ σ s id:=by
 cases hf:(I9 σ s).find? (fun x=>aF x.id id) with
 | some b =>
  obtain ⟨x,hx,hb⟩:=mX.1 (List.mem_of_find?_eq_some hf)
  have hs:=List.find?_some hf
  have:=ua P.good P.named hx hb
  rw [ct hs] at this
  exact this.symm
 | none =>
  cases hg:gJ σ s id with
  | none=>rfl
  | some a =>
   rw [List.find?_eq_none] at hf
   unfold gJ at hg
   split at hg
   ·rename_i hh
    obtain ⟨_,x,hx,h1,h2⟩:=d4 P.good hh
    rw [←h2] at hg
    exact absurd (List.find?_some hg) (hf a (mX.2 ⟨x,hx,List.mem_of_find?_eq_some hg⟩))
   ·cases hg
theorem Cd (hi:gZ σ) {p:aC} (hp:p.Good) (hf:I4 p) {a:aH} (ha:a∈bj σ p):a.over.Nodup:=by
 unfold bj at ha
 obtain ⟨y,hy,rfl⟩:=List.mem_map.1 ha
 show (σ.i (y.over.map fun z=>ba z p.dig)).Nodup
 exact (hi _).1.nodup_iff.2 (AN hp hf hy)
theorem Fa {p:aC} (hp:p.Good):(bj σ p).Pairwise fun a b=>a.id≠b.id:=by
 rw [List.pairwise_iff_getElem]
 intro i j hi hj hij he
 have h1:=(gh (σ:=σ) hp (List.getElem?_eq_getElem hi)).2
 have h2:=(gh (σ:=σ) hp (List.getElem?_eq_getElem hj)).2
 rw [he,h2] at h1
 omega
theorem J8 {s:List ah} (P:jt s) {L:List ar} (hL:∀d∈L,jn s d.d=true) (hn:(dh L).Nodup):((E4 σ s L).map fun x=>x.id).Nodup:=by
 rw [List.nodup_iff_pairwise_ne]
 refine List.pairwise_map.2 ?_
 unfold E4
 rw [List.pairwise_flatten]
 refine ⟨fun l hl=>?_,?_⟩
 ·obtain ⟨d,hd,rfl⟩:=List.mem_map.1 hl
  exact Fa (d4 P.good (hL d hd)).1
 ·refine List.pairwise_map.2 ?_
  unfold dh at hn
  rw [List.nodup_iff_pairwise_ne] at hn
  refine List.Pairwise.imp_of_mem (fun {d e} hd he hne a ha b hb hab=>hne ?_) (List.pairwise_map.1 hn)
  have key:∀{d:ar} {a:aH},d∈L→a∈bj σ (d3 s d.d)→a.id.d=d.d:=fun {d a} hd ha=>by
   obtain ⟨hp,x,hx,h1,h2⟩:=d4 P.good (hL d hd)
   obtain ⟨i,hi⟩:=List.getElem?_of_mem ha
   rw [(gh hp hi).1,←h2,P.named x hx,h1]
  rw [←key hd ha,←key he hb,hab]
theorem Hc (s:List ah) (L:List ar):qo σ s L L.length=(E4 σ s L).reverse:=by
 unfold qo E4
 rw [←List.length_reverse,List.take_length,List.reverse_flatten,List.map_reverse,List.map_map]
 rfl
theorem mu (s:List ah):∀d∈cr σ s s.length [],jn s d.d=true:=by
 intro d hd
 rcases iT s _ _ d hd with h | ⟨x,hx,rfl⟩
 ·cases h
 ·unfold jn;rw [List.find?_isSome];exact ⟨x,hx,by simp⟩
end Go.Proofs.Ev
namespace Go.Proofs.Ev
open Go.Proofs
inductive pK (F:aI→Option aH) (file:aI):aH→Prop
 | own (x:aH) (hk:x.kind≠7) (hf:aF x.file file=true):pK F file x
 | back (x:aH) (o:aI) (y:aH) (hk:x.kind=7) (ho:o∈x.over) (hy:F o=some y) (hc:pK F file y):pK F file x
theorem qk {l:List aI} {z:aI}:rk l z=true↔z∈l:=by
 unfold rk
 rw [List.any_eq_true]
 constructor
 ·rintro ⟨x,h1,h2⟩;rw [←ct h2];exact h1
 ·exact fun h=>⟨z,h,by simp [aF]⟩
end Go.Proofs.Ev
namespace Go.Proofs.Ev
open Go.Proofs
variable {C:bG} {σ:aZ}
structure bY (C:bG) (σ:aZ):Prop extends cT C σ where
 pureU:∀f,f∈[60,25,58,8]→C.pure f=true
 plainU:∀f,f∈[59,108,169,170,254,310,152,22]→C.pure f=false∧C.frz f=false
theorem pU (S:bY C σ) {base:Nat} {H:ag} (a b:aH) (K:AV→ag→Prop):aD Tryz.prog C base (.fn 60 []) [.agg a.cells,.agg b.cells] H K=K (.int .i64 (dA a.id b.id)) H:=by
 refine aD.eq (d5 (S.pureU _ (by decide)) (am Tryz.func60 rfl (S.prim _ (by decide)) (by simp) (by kernel_rfl) ?_)) K
 unfold Tryz.f60
 have e:=(wz S.toeQ a.id b.id).eq
 simp [aG,e]
theorem nJ {X:ag} {b g k:Nat} {l:List aH} (hX:X[b]?=some (.rows 172 g (l.map aH.cells))) (hk:k<l.length):ax X b g 172 k=some l[k].cells:=by
 simp [ax,hX,List.getElem?_eq_getElem hk]
end Go.Proofs.Ev
namespace Go.Proofs.Ev
open Go.Proofs
variable {C:bG} {σ:aZ}
end Go.Proofs.Ev
namespace Go.Proofs.Ev
open Go.Proofs
variable {C:bG} {σ:aZ}
def vm (v:AV):Nat:=match v with | .int _ n=>n.toNat | _=>0
@[simp] theorem OE (k:IntKind) (n:Int):vm (.int k n)=n.toNat:=rfl
end Go.Proofs.Ev
namespace Go.Proofs.Ev
open Go.Proofs
variable {C:bG} {σ:aZ}
theorem T3 (n:Nat) (h:n≤2^60):IntKind.u64.wrap (n:Int)=(n:Int):=IntWalk.u64_in _ (by omega)
theorem xt (H:ag) (n:Nat) (h:n≤2^60):bi Tryz.prog H 3 146 (.int .i64 (n:Int))=some (.int .u64 (n:Int),H):=by simp [bi,T3 n h]
theorem xu (t:TypeId) (n h:Nat) (hh:h=n / 2):bU Tryz.prog C .shr t (.int .u64 (n:Int)) (.int .u64 1)=some (.int .u64 (h:Int)):=by
 subst hh
 simp only [bU]
 rw [if_pos (by decide)]
 have:(2:Int)^min (Int.toNat 1) IntKind.u64.bits=2:=by decide
 rw [this,Int.fdiv_eq_ediv_of_nonneg _ (by decide)]
 norm_cast
theorem xv (H:ag) (n:Nat) (h:n≤2^60):bi Tryz.prog H 146 3 (.int .u64 (n:Int))=some (.int .i64 (n:Int),H):=by simp [bi,aK (x:=(n:Int)) (by omega) (by omega)]
end Go.Proofs.Ev
namespace Go.Proofs.Ev
open Go.Proofs
variable {C:bG} {σ:aZ}
end Go.Proofs.Ev
