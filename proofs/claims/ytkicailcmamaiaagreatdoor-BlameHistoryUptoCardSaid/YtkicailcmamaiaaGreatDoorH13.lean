/- Part 13 of the proof that quiltlaw38.BlameHistory returns true: no statement of its own. -/
import Derived.Test.YtkicailcmamaiaaGreatDoorH5
import Derived.Test.YtkicailcmamaiaaGreatDoorH12
import Derived.Lib.SliceRun
set_option linter.all false
namespace Go.Proofs.Ev
open Go.RowKit
variable {P:Program} {C:bD} {N:gH} {φ φ' φ0 ψ ψ':fJ} {H0:ae} {w w' w0:World}
structure lX (P:Program) (C:bD) (kk base:Nat) (ops:Array Oper) (B:Nat→Nat→Prop) (S:Nat→List AV) (Hp:Nat→ae) (v:Nat→AV) (c:Nat→Nat):Prop where
 bits:∀k i,B k i→mH ops k i
 step:∀i o,ops[i]?=some o→bF P C kk base ops o (iJ (looks ops o) (S i)) (Hp i)=some (v i,Hp (i+1))
 put:∀i o,ops[i]?=some o→S (i+1)=nI (S i) o.dst (v i)
 cls:∀i o,ops[i]?=some o→c i=mP P ops (iJ (looks ops o) (S i)) o
 back:∀i o,ops[i]?=some o→∀e∈o.after,Region.binds .any e=true→e.on<i
 uniq:∀(i k:Nat) (o o':Oper) (t:Tmp),ops[i]?=some o→ops[k]?=some o'→k≠i→o'.dst=some t→o.dst≠some t
 seen:∀(i k:Nat) (o o':Oper) (t:Tmp),ops[i]?=some o→ops[k]?=some o'→k≠i→o'.dst=some t→t∈looks ops o→B k i∨B i k
 chg:∀i,i<ops.size→2≤c i→c i≠3→∀k,k<i→2≤c k→B k i
 late:∀i,i<ops.size→c i=3→∀j,j<ops.size→B i j→∀k,k<i→2≤c k→B k j
 again:∀i o,ops[i]?=some o→c i=1→∀p,(p=ops.size∨(p<ops.size∧2≤c p))→(∀k,k<ops.size→2≤c k→(B k i→k<p)∧(B i k→p≤k))→∃H1,bF P C kk base ops o (iJ (looks ops o) (S i)) (Hp p)=some (v i,H1)
section
variable {kk base:Nat} {ops:Array Oper} {B:Nat→Nat→Prop} {S:Nat→List AV} {Hp:Nat→ae} {v:Nat→AV} {c:Nat→Nat}
theorem nt {i:Nat} (h:i<ops.size):∃o,ops[i]?=some o:=⟨_,Array.getElem?_eq_getElem h⟩
theorem kn {i:Nat} {o:Oper} (h:ops[i]?=some o):i<ops.size:=(Array.getElem?_eq_some_iff.1 h).1
theorem lX.lt (D:lX P C kk base ops B S Hp v c) {k i:Nat} (h:mH ops k i):k<i:=by
 induction h with
 | one ho he hb=>exact D.back _ _ ho _ he hb
 | more ho he hb _ ih=>exact Nat.lt_trans ih (D.back _ _ ho _ he hb)
theorem lX.quiet (D:lX P C kk base ops B S Hp v c) {i:Nat} (hi:i<ops.size) (hc:c i<2):Hp (i+1)=Hp i:=by
 obtain ⟨o,ho⟩:=nt hi
 exact pC (D.step i o ho) (by rw [←D.cls i o ho];omega)
theorem lX.len (D:lX P C kk base ops B S Hp v c):∀i,i≤ops.size→(S i).length=(S 0).length
 | 0,_=>rfl
 | i+1,hi=>by
  obtain ⟨o,ho⟩:=nt (ops:=ops) (i:=i) (by omega)
  rw [D.put i o ho,←D.len i (by omega)]
  cases o.dst<;>simp [nI]
theorem lX.old (D:lX P C kk base ops B S Hp v c) {t:Nat}:∀i,i≤ops.size→(∀k o,k<i→ops[k]?=some o→o.dst≠some t)→(S i)[t]?=(S 0)[t]?
 | 0,_,_=>rfl
 | i+1,hi,h=>by
  obtain ⟨o,ho⟩:=nt (ops:=ops) (i:=i) (by omega)
  rw [D.put i o ho,←D.old i (by omega) fun k o hk=>h k o (by omega)]
  have:=h i o (by omega) ho
  cases hd:o.dst with
  | none=>rfl
  | some d =>
   simp only [nI]
   exact List.getElem?_set_ne fun e=>this (by rw [hd,e])
theorem lX.new (D:lX P C kk base ops B S Hp v c) {t k:Nat} {o':Oper} (hk:ops[k]?=some o') (hd:o'.dst=some t) (ht:t<(S 0).length):∀i,i≤ops.size→k<i→(S i)[t]?=some (v k)
 | 0,_,h=>by omega
 | i+1,hi,h=>by
  obtain ⟨o,ho⟩:=nt (ops:=ops) (i:=i) (by omega)
  rw [D.put i o ho]
  by_cases e:k=i
  ·subst e
   rw [hk] at ho
   cases ho
   rw [hd]
   simp only [nI]
   rw [List.getElem?_set_self (by rw [D.len k (by omega)];exact ht)]
  ·have h1:=D.new hk hd ht i (by omega) (by omega)
   have:=D.uniq i k o o' t ho hk e hd
   cases hd':o.dst with
   | none=>exact h1
   | some d =>
    simp only [nI]
    rw [List.getElem?_set_ne fun e=>this (by rw [hd',e])]
    exact h1
def yw (ops:Array Oper) (listed:Array Bool):Prop :=
 ∀(j:Nat) (o:Oper),ops[j]?=some o→listed.getD j false=true→∀e∈o.after,Region.binds .any e=true→listed.getD e.on false=true
theorem pe {listed:Array Bool} {j:Nat} (h:listed.getD j false=true):listed.getD j true=true:=by
 rcases Nat.lt_or_ge j listed.size with h' | h'
 ·simp [h'] at h ⊢;exact h
 ·simp [Array.getElem?_eq_none h'] at h
theorem yw.set {listed:Array Bool} {i:Nat} (hD:yw ops listed) (hi:i∈Region.ready .any ops listed):yw ops (listed.setIfInBounds i true):=by
 intro j o ho hj e he hb
 by_cases hji:j=i
 ·subst hji
  obtain ⟨_,o',ho',hall⟩:=mem_ready.1 hi
  rw [ho] at ho'
  cases ho'
  exact getD_set_true (hall e he hb)
 ·rw [getD_set_ne false (Ne.symm hji)] at hj
  exact getD_set_true (hD j o ho hj e he hb)
theorem mH.listed {listed:Array Bool} (hD:yw ops listed) {k i:Nat} (h:mH ops k i) (hi:listed.getD i false=true):listed.getD k false=true:=by
 induction h with
 | one ho he hb=>exact hD _ _ ho hi _ he hb
 | more ho he hb _ ih=>exact ih (hD _ _ ho hi _ he hb)
theorem mH.ready {listed:Array Bool} (hD:yw ops listed) {k i:Nat} (h:mH ops k i) (hi:i∈Region.ready .any ops listed):listed.getD k false=true:=by
 obtain ⟨_,o',ho',hall⟩:=mem_ready.1 hi
 cases h with
 | one ho he hb=>rw [ho] at ho';cases ho';exact hall _ he hb
 | more ho he hb h=>rw [ho] at ho';cases ho';exact h.listed hD (hall _ he hb)
structure St (N:gH) (base B0:Nat) (φ0:fJ) (H0:ae) (w0:World) (ops:Array Oper) (S:Nat→List AV) (Hp:Nat→ae) (v:Nat→AV) (c:Nat→Nat)
 (listed:Array Bool) (p:Nat) (pd:Nat→Option Nat) (ψ:fJ) (a:Act) (w:World):Prop where
 ls:listed.size=ops.size
 pn:p≤ops.size
 below:∀k,k<p→2≤c k→listed.getD k false=true
 above:∀k,p≤k→k<ops.size→2≤c k→listed.getD k false=true→∃cb,pd k=some cb
 pend:∀k cb,pd k=some cb→p≤k∧k<ops.size∧c k=3∧listed.getD k false=true∧w0.heap.size≤cb∧¬φ0.res cb∧
  (∃z Z T,z.cells.all AV.leaf=true∧v k=(fu (Hp k) z).1∧Hp (k+1)=(fu (Hp k) z).2∧(∀φ n w,RV φ n w z Z)∧w.heap[cb]?=some (.cells Z.cells T (0,0)))∧
  ∀o t,ops[k]?=some o→o.dst=some t→t<(S 0).length→a.tmps[t]?=some (.pointer (some ⟨cb,0,none⟩))
 inj:∀k k' cb,pd k=some cb→pd k'=some cb→k=k'
 res:∀x,ψ.res x↔φ0.res x∨∃k,pd k=some x
 hr:HR N ψ (Hp p) w
 ext:jU φ0 H0.length w0 ψ (Hp p).length w
 size:a.tmps.size=(S 0).length
 old:∀t x,(S 0)[t]?=some x→(∀k o,ops[k]?=some o→listed.getD k false=true→o.dst≠some t)→∃V,a.tmps[t]?=some V∧RV ψ (Hp p).length w x V
 new:∀k o t,ops[k]?=some o→listed.getD k false=true→o.dst=some t→t<(S 0).length→pd k=none→∃V,a.tmps[t]?=some V∧RV ψ (Hp p).length w (v k) V
 marks:eZ B0 ψ w a.defers
 low:∀b,b<base→(Hp p)[b]?=H0[b]?
variable {B0:Nat} {listed:Array Bool} {p:Nat} {pd:Nat→Option Nat} {a:Act}
theorem St.advance (D:lX P C kk base ops B S Hp v c) (hN:N.n≤w0.heap.size) (hbase:base≤H0.length):∀(m p:Nat) (pd:Nat→Option Nat) (ψ:fJ),ops.size-p≤m→St N base B0 φ0 H0 w0 ops S Hp v c listed p pd ψ a w→
 ∃p' pd' ψ',St N base B0 φ0 H0 w0 ops S Hp v c listed p' pd' ψ' a w∧(p'<ops.size→2≤c p'∧listed.getD p' false=false):=by
 intro m
 induction m with
 | zero=>intro p pd ψ hm h;exact ⟨p,pd,ψ,h,fun hp=>by omega⟩
 | succ m ih =>
  intro p pd ψ hm h
  rcases Nat.lt_or_ge p ops.size with hp | hp
  ·by_cases hc:c p<2
   ·have hq:=D.quiet hp hc
    refine ih (p+1) pd ψ (by omega) ⟨h.ls,hp,fun k hk h2=>?_,fun k hk=>h.above k (by omega),fun k cb hk=>?_,h.inj,h.res,by rw [hq];exact h.hr,by rw [hq];exact h.ext,h.size,
     by rw [hq];exact h.old,by rw [hq];exact h.new,h.marks,by rw [hq];exact h.low⟩
    ·rcases Nat.lt_or_ge k p with hkp | hkp
     ·exact h.below k hkp h2
     ·have:k=p:=by omega
      subst this;omega
    ·obtain ⟨h1,h2,h3,h4⟩:=h.pend k cb hk
     refine ⟨?_,h2,h3,h4⟩
     rcases Nat.lt_or_ge p k with hkp | hkp
     ·exact hkp
     ·have:k=p:=by omega
      subst this;omega
   ·by_cases hl:listed.getD p false=true
    ·obtain ⟨cb,hcb⟩:=h.above p (Nat.le_refl _) hp (by omega) hl
     obtain ⟨_,_,h3,_,h5,h6,⟨z,Z,T,hz,hv,hH,hrv,hh⟩,htm⟩:=h.pend p cb hcb
     have hres:ψ.res cb:=(h.res cb).2 (.inr ⟨p,hcb⟩)
     have hlen:(Hp (p+1)).length=(Hp p).length+1:=by rw [hH];simp [fu,iG]
     have hx:jU ψ (Hp p).length w (adopt ψ (Hp p).length cb Z.cells.size) (Hp (p+1)).length w:=by rw [hlen];exact jU.adopt hres
     refine ih (p+1) (fun k=>if k=p then none else pd k) (adopt ψ (Hp p).length cb Z.cells.size) (by omega) ⟨h.ls,hp,fun k hk h2=>?_,fun k hk h1 h2 h3=>?_,fun k cb' hk=>?_,fun k k' cb' hk hk'=>?_,fun x=>?_,
      by rw [hH];exact h.hr.adopt hres (by omega) hh (hrv _ _ _) hz,h.ext.trans hx fun x hx=>(h.res x).2 (.inl hx),h.size,fun t x ht hno=>?_,fun k o t hk hlk hd ht hpk=>?_,h.marks.monoR hx,fun b hb=>?_⟩
     ·rcases Nat.lt_or_ge k p with hkp | hkp
      ·exact h.below k hkp h2
      ·have:k=p:=by omega
       subst this;exact hl
     ·obtain ⟨cb',hcb'⟩:=h.above k (by omega) h1 h2 h3
      exact ⟨cb',by rw [if_neg (by omega)];exact hcb'⟩
     ·split at hk
      ·cases hk
      ·rename_i hne
       obtain ⟨h1,h2⟩:=h.pend k cb' hk
       exact ⟨by omega,h2⟩
     ·split at hk
      ·cases hk
      ·split at hk'
       ·cases hk'
       ·exact h.inj k k' cb' hk hk'
     ·simp only [adopt]
      rw [h.res x]
      constructor
      ·rintro ⟨h1 | ⟨k,hk⟩,hne⟩
       ·exact .inl h1
       ·refine .inr ⟨k,?_⟩
        rw [if_neg]
        ·exact hk
        ·rintro rfl;rw [hcb] at hk;cases hk;exact hne rfl
      ·rintro (h1 | ⟨k,hk⟩)
       ·exact ⟨.inl h1,by rintro rfl;exact h6 h1⟩
       ·split at hk
        ·cases hk
        ·rename_i hne
         exact ⟨.inr ⟨k,hk⟩,by rintro rfl;exact hne (h.inj _ _ _ hk hcb)⟩
     ·obtain ⟨V,h1,h2⟩:=h.old t x ht hno
      exact ⟨V,h1,h2.monoC hx.toC⟩
     ·by_cases e:k=p
      ·subst e
       refine ⟨_,htm o t hk hd ht,?_⟩
       rw [hv,hlen]
       refine .ptr (by simp) fun L hL=>?_
       simp only [adopt,if_true,Option.some.injEq] at hL
       subst hL
       exact ⟨Nat.le_refl _,fun _=>by simp⟩
      ·simp only [e,if_false] at hpk
       obtain ⟨V,h1,h2⟩:=h.new k o t hk hlk hd ht hpk
       exact ⟨V,h1,h2.monoC hx.toC⟩
     ·rw [hH]
      simp only [fu,iG]
      rw [List.getElem?_append_left (by have:=h.ext.le;omega)]
      exact h.low b hb
    ·exact ⟨p,pd,ψ,h,fun _=>⟨by omega,by simpa using hl⟩⟩
  ·exact ⟨p,pd,ψ,h,fun hp'=>by omega⟩
end
end Go.Proofs.Ev
namespace Go.Proofs.Ev
open Go.RowKit
variable {P:Program} {C:bD} {N:gH} {φ φ' φ0 ψ ψ':fJ} {H0:ae} {w w' w0:World}
variable {kk base:Nat} {ops:Array Oper} {B:Nat→Nat→Prop} {S:Nat→List AV} {Hp:Nat→ae} {v:Nat→AV} {c:Nat→Nat}
variable {B0:Nat} {listed:Array Bool} {p:Nat} {pd:Nat→Option Nat} {a:Act}
theorem ji {dst:Option Tmp} {V:Value} {t:Tmp} (h:dst≠some t):(a.put dst V).tmps[t]?=a.tmps[t]?:=by
 cases dst with
 | none=>rfl
 | some d=>simp only [Act.put];exact Array.getElem?_setIfInBounds_ne fun e=>h (by rw [e])
theorem C1 {dst:Option Tmp} {V:Value} {t:Tmp} (h:dst=some t) (ht:t<a.tmps.size):(a.put dst V).tmps[t]?=some V:=by
 subst h
 simp only [Act.put]
 rw [Array.getElem?_setIfInBounds_self_of_lt ht]
theorem zJ {dst:Option Tmp} {V:Value}:(a.put dst V).tmps.size=a.tmps.size:=by cases dst<;>simp [Act.put]
theorem rl {i:Nat} (hi:i∈Region.ready .any ops listed):listed.getD i false=false:=by
 cases h:listed.getD i false with
 | false=>rfl
 | true=>have:=(mem_ready.1 hi).1;rw [pe h] at this;cases this
theorem uQ {i:Nat} (h:i<listed.size):(listed.setIfInBounds i true).getD i false=true:=by simp [h]
theorem St.solid (D:lX P C kk base ops B S Hp v c) (h:St N base B0 φ0 H0 w0 ops S Hp v c listed p pd ψ a w) (hf:p<ops.size→2≤c p∧listed.getD p false=false) (hD:yw ops listed) {i k:Nat} (hi:i∈Region.ready .any ops listed) (hB:B k i):pd k=none:=by
 cases hk:pd k with
 | none=>rfl
 | some cb =>
  exfalso
  obtain ⟨h1,h2,h3,h4,_⟩:=h.pend k cb hk
  obtain ⟨h5,h6⟩:=hf (by omega)
  obtain ⟨_,o,ho,_⟩:=mem_ready.1 hi
  have hne:p≠k:=by rintro rfl;rw [h4] at h6;cases h6
  have:=(D.bits _ _ (D.late k h2 h3 i (kn ho) hB p (by omega) h5)).ready hD hi
  rw [h6] at this;cases this
theorem St.slots (D:lX P C kk base ops B S Hp v c) (h:St N base B0 φ0 H0 w0 ops S Hp v c listed p pd ψ a w) (hf:p<ops.size→2≤c p∧listed.getD p false=false) (hD:yw ops listed) {i:Nat} {o:Oper} (ho:ops[i]?=some o) (hi:i∈Region.ready .any ops listed) :
 bG ψ (Hp p).length w (iJ (looks ops o) (S i)) a.tmps:=by
 obtain ⟨h1,h2⟩:=DF (looks ops o) (S i)
 have hlen:=D.len i (Nat.le_of_lt (kn ho))
 refine ⟨by rw [h1,hlen];exact h.size,fun t x hx=>?_⟩
 have hlt:t<a.tmps.size:=by
  have:=(List.getElem?_eq_some_iff.1 hx).1
  rw [h1,hlen] at this
  rw [h.size];exact this
 rcases h2 t x hx with rfl | ⟨hm,hS⟩
 ·exact ⟨_,Array.getElem?_eq_getElem hlt,.undef _⟩
 ·have hno:=rl hi
  by_cases hw:∃k o',k<i∧ops[k]?=some o'∧o'.dst=some t
  ·obtain ⟨k,o',hk,ho',hd⟩:=hw
   rw [D.new ho' hd (by rw [←h.size];exact hlt) i (Nat.le_of_lt (kn ho)) hk] at hS
   cases hS
   rcases D.seen i k o o' t ho ho' (by omega) hd hm with hb | hb
   ·exact h.new k o' t ho' ((D.bits _ _ hb).ready hD hi) hd (by rw [←h.size];exact hlt) (h.solid D hf hD hi hb)
   ·have:=D.lt (D.bits _ _ hb);omega
  ·rw [D.old i (Nat.le_of_lt (kn ho)) fun k o' hk ho' hd=>hw ⟨k,o',hk,ho',hd⟩] at hS
   refine h.old t x hS fun k o' ho' hl hd=>?_
   have hne:k≠i:=by rintro rfl;rw [hno] at hl;cases hl
   rcases D.seen i k o o' t ho ho' hne hd hm with hb | hb
   ·exact hw ⟨k,o',D.lt (D.bits _ _ hb),ho',hd⟩
   ·have:=(D.bits _ _ hb).listed hD hl
    rw [hno] at this;cases this
theorem St.step (D:lX P C kk base ops B S Hp v c) (h:St N base B0 φ0 H0 w0 ops S Hp v c listed p pd ψ a w) {i:Nat} {o:Oper} (ho:ops[i]?=some o) (hno:listed.getD i false=false) {q:Nat} (hq:(q=p∧c i<2)∨(p=i∧q=i+1))
 {V:Value} (hv:RV ψ' (Hp q).length w' (v i) V) (hr:HR N ψ' (Hp q) w') (hx:bZ ψ (Hp p).length w ψ' (Hp q).length w') (hlow:∀b,b<base→(Hp q)[b]?=(Hp p)[b]?) :
 St N base B0 φ0 H0 w0 ops S Hp v c (listed.setIfInBounds i true) q pd ψ' (a.put o.dst V) w':=by
 have hi:=kn ho
 have hset:(listed.setIfInBounds i true).getD i false=true:=uQ (by rw [h.ls];exact hi)
 have hback:∀k,k≠i→(listed.setIfInBounds i true).getD k false=true→listed.getD k false=true:=fun k hk hl=>by rwa [getD_set_ne false (Ne.symm hk)] at hl
 refine ⟨by simp [h.ls],?_,fun k hk h2=>?_,fun k hk h1 h2 hl=>?_,fun k cb hk=>?_,h.inj,fun x=>by rw [hx.res];exact h.res x,hr,h.ext.trans hx.toR fun x hx=>(h.res x).2 (.inl hx),by rw [zJ];exact h.size,
  fun t x ht hnw=>?_,fun k o' t hk hl hd ht hpk=>?_,by rw [pv];exact h.marks.mono hx,fun b hb=>(hlow b hb).trans (h.low b hb)⟩
 ·rcases hq with ⟨rfl,_⟩ | ⟨_,rfl⟩
  ·exact h.pn
  ·exact hi
 ·by_cases e:k=i
  ·subst e;exact hset
  ·refine getD_set_true (h.below k ?_ h2)
   rcases hq with ⟨rfl,_⟩ | ⟨rfl,rfl⟩<;>omega
 ·have e:k≠i:=by rintro rfl;rcases hq with ⟨_,h3⟩ | ⟨_,rfl⟩<;>omega
  exact h.above k (by rcases hq with ⟨rfl,_⟩ | ⟨rfl,rfl⟩<;>omega) h1 h2 (hback k e hl)
 ·obtain ⟨h1,h2,h3,h4,h5,h6,⟨z,Z,T,hz,hvk,hH,hrv,hh⟩,htm⟩:=h.pend k cb hk
  have e:k≠i:=by rintro rfl;rw [hno] at h4;cases h4
  refine ⟨by rcases hq with ⟨rfl,_⟩ | ⟨rfl,rfl⟩<;>omega,h2,h3,getD_set_true h4,h5,h6,⟨z,Z,T,hz,hvk,hH,hrv,hx.keep cb _ ((h.res cb).2 (.inr ⟨k,hk⟩)) hh⟩,fun o' t ho' hd ht=>?_⟩
  rw [ji (D.uniq i k o o' t ho ho' e hd)]
  exact htm o' t ho' hd ht
 ·obtain ⟨U,h1,h2⟩:=h.old t x ht fun k o' ho' hl=>hnw k o' ho' (getD_set_true hl)
  exact ⟨U,by rw [ji (hnw i o ho hset)];exact h1,h2.mono hx⟩
 ·by_cases e:k=i
  ·subst e
   rw [ho] at hk
   cases hk
   exact ⟨V,C1 hd (by rw [h.size];exact ht),hv⟩
  ·obtain ⟨U,h1,h2⟩:=h.new k o' t hk (hback k e hl) hd ht hpk
   exact ⟨U,by rw [ji (D.uniq i k o o' t ho hk e hd)];exact h1,h2.mono hx⟩
theorem St.ahead (D:lX P C kk base ops B S Hp v c) (hress:∀x,φ0.res x→x<w0.heap.size) (h:St N base B0 φ0 H0 w0 ops S Hp v c listed p pd ψ a w) {i:Nat} {o:Oper} (ho:ops[i]?=some o) (hno:listed.getD i false=false) (hc:c i=3) (hp:p≤i)
 {z:AV} {Z:Value} {T:TypeId} (hz:z.cells.all AV.leaf=true) (hv:v i=(fu (Hp i) z).1) (hH:Hp (i+1)=(fu (Hp i) z).2) (hrv:∀φ n w,RV φ n w z Z) :
 St N base B0 φ0 H0 w0 ops S Hp v c (listed.setIfInBounds i true) p (fun k=>if k=i then some w.heap.size else pd k) (hold ψ w.heap.size) (a.put o.dst (.pointer (some ⟨w.heap.size,0,none⟩))) (w.alloc (.cells Z.cells T (0,0))):=by
 have hi:=kn ho
 have hset:(listed.setIfInBounds i true).getD i false=true:=uQ (by rw [h.ls];exact hi)
 have hback:∀k,k≠i→(listed.setIfInBounds i true).getD k false=true→listed.getD k false=true:=fun k hk hl=>by rwa [getD_set_ne false (Ne.symm hk)] at hl
 have hx:jU ψ (Hp p).length w (hold ψ w.heap.size) (Hp p).length (w.alloc (.cells Z.cells T (0,0))):=jU.hold _
 have hlt:∀k cb,pd k=some cb→cb<w.heap.size:=fun k cb hk=>h.hr.ress cb ((h.res cb).2 (.inr ⟨k,hk⟩))
 have hpi:pd i=none:=by
  cases hk:pd i with
  | none=>rfl
  | some cb=>have:=(h.pend i cb hk).2.2.2.1;rw [hno] at this;cases this
 refine ⟨by simp [h.ls],h.pn,fun k hk h2=>getD_set_true (h.below k hk h2),fun k hk h1 h2 hl=>?_,fun k cb hk=>?_,fun k k' cb hk hk'=>?_,fun x=>?_,h.hr.hold _,h.ext.trans hx fun x hx=>(h.res x).2 (.inl hx),by rw [zJ];exact h.size,
  fun t x ht hnw=>?_,fun k o' t hk hl hd ht hpk=>?_,by rw [pv];exact h.marks.monoR hx,h.low⟩
 ·by_cases e:k=i
  ·exact ⟨_,if_pos e⟩
  ·obtain ⟨cb,h3⟩:=h.above k hk h1 h2 (hback k e hl)
   exact ⟨cb,by rw [if_neg e];exact h3⟩
 ·by_cases e:k=i
  ·subst e
   rw [if_pos rfl] at hk
   cases hk
   refine ⟨hp,hi,hc,hset,h.ext.size,fun hr=>?_,⟨z,Z,T,hz,hv,hH,hrv,bo⟩,fun o' t ho' hd ht=>?_⟩
   ·have:=hress _ hr
    have:=h.ext.size
    omega
   ·rw [ho] at ho'
    cases ho'
    exact C1 hd (by rw [h.size];exact ht)
  ·rw [if_neg e] at hk
   obtain ⟨h1,h2,h3,h4,h5,h6,⟨z',Z',T',hz',hvk,hH',hrv',hh⟩,htm⟩:=h.pend k cb hk
   refine ⟨h1,h2,h3,getD_set_true h4,h5,h6,⟨z',Z',T',hz',hvk,hH',hrv',(aY (hlt k cb hk)).trans hh⟩,fun o' t ho' hd ht=>?_⟩
   rw [ji (D.uniq i k o o' t ho ho' e hd)]
   exact htm o' t ho' hd ht
 ·split at hk
  ·rename_i e
   cases hk
   split at hk'
   ·rename_i e';omega
   ·have:=hlt _ _ hk';omega
  ·split at hk'
   ·cases hk';have:=hlt _ _ hk;omega
   ·exact h.inj _ _ _ hk hk'
 ·simp only [hold]
  rw [h.res x]
  constructor
  ·rintro ((h1 | ⟨k,hk⟩) | rfl)
   ·exact .inl h1
   ·exact .inr ⟨k,by rw [if_neg];exact hk;rintro rfl;rw [hpi] at hk;cases hk⟩
   ·exact .inr ⟨i,if_pos rfl⟩
  ·rintro (h1 | ⟨k,hk⟩)
   ·exact .inl (.inl h1)
   ·split at hk
    ·cases hk;exact .inr rfl
    ·exact .inl (.inr ⟨k,hk⟩)
 ·obtain ⟨U,h1,h2⟩:=h.old t x ht fun k o' ho' hl=>hnw k o' ho' (getD_set_true hl)
  exact ⟨U,by rw [ji (hnw i o ho hset)];exact h1,h2.monoC hx.toC⟩
 ·by_cases e:k=i
  ·rw [if_pos e] at hpk;cases hpk
  ·rw [if_neg e] at hpk
   obtain ⟨U,h1,h2⟩:=h.new k o' t hk (hback k e hl) hd ht hpk
   exact ⟨U,by rw [ji (D.uniq i k o o' t ho hk e hd)];exact h1,h2.monoC hx.toC⟩
end Go.Proofs.Ev
namespace Go.Proofs.Ev
open Go.RowKit
variable {P:Program} {C:bD} {N:gH} {φ φ' φ0 ψ ψ':fJ} {H0:ae} {w w' w0:World}
variable {kk base:Nat} {ops:Array Oper} {B:Nat→Nat→Prop} {S:Nat→List AV} {Hp:Nat→ae} {v:Nat→AV} {c:Nat→Nat}
variable {B0:Nat} {listed:Array Bool} {p:Nat} {pd:Nat→Option Nat} {a:Act}
def Fd (listed:Array Bool):Nat→Nat
 | 0=>0
 | m+1=>Fd listed m+if listed.getD m false=true then 0 else 1
theorem Ic {listed:Array Bool} {i:Nat}:∀m,Fd (listed.setIfInBounds i true) m≤Fd listed m
 | 0=>Nat.le_refl _
 | m+1=>by
  have:=Ic (listed:=listed) (i:=i) m
  simp only [Fd]
  by_cases h:listed.getD m false=true
  ·rw [if_pos h,if_pos (getD_set_true h)];exact this
  ·rw [if_neg h]
   split<;>omega
theorem Id {i:Nat} (hs:i<listed.size) (hi:listed.getD i false=false):∀m,i<m→Fd (listed.setIfInBounds i true) m<Fd listed m
 | 0,h=>by omega
 | m+1,h=>by
  simp only [Fd]
  by_cases e:i=m
  ·subst e
   rw [if_pos (uQ hs),if_neg (by rw [hi];simp)]
   have:=Ic (listed:=listed) (i:=i) i
   omega
  ·have:=Id hs hi m (by omega)
   by_cases h:listed.getD m false=true
   ·rw [if_pos h,if_pos (getD_set_true h)];exact this
   ·rw [if_neg h]
    split<;>omega
theorem Au:∀m,Fd listed m=0→∀i,i<m→listed.getD i false=true
 | 0,_,i,hi=>by omega
 | m+1,h,i,hi=>by
  simp only [Fd] at h
  by_cases e:i=m
  ·subst e
   by_cases hl:listed.getD i false=true
   ·exact hl
   ·rw [if_neg hl] at h;omega
  ·exact Au m (by omega) i (by omega)
theorem wQ (n:Nat):∀m,Fd (Array.replicate n false) m≤m
 | 0=>Nat.le_refl _
 | m+1=>by
  have:=wQ n m
  simp only [Fd]
  split<;>omega
theorem AD (D:lX P C kk base ops B S Hp v c) (hs:listed.size=ops.size) (hr:Region.ready .any ops listed=[]):∀i,i<ops.size→listed.getD i false=true:=by
 intro i
 induction i using Nat.strongRecOn with
 | _ i ih =>
  intro hi
  cases hl:listed.getD i false with
  | true=>rfl
  | false =>
   exfalso
   obtain ⟨o,ho⟩:=nt hi
   have:i∈Region.ready .any ops listed:=by
    refine mem_ready.2 ⟨?_,o,ho,fun e he hb=>?_⟩
    ·have:i<listed.size:=by omega
     simp [this] at hl ⊢;exact hl
    ·have:=D.back i o ho e he hb
     exact ih _ this (by omega)
   rw [hr] at this
   cases this
theorem St.done (D:lX P C kk base ops B S Hp v c) (h:St N base B0 φ0 H0 w0 ops S Hp v c listed p pd ψ a w) (hf:p<ops.size→2≤c p∧listed.getD p false=false) (hall:∀i,i<ops.size→listed.getD i false=true)
 {Q:Exit→Act→World→Prop} (hQ:∀a' w' φ',HR N φ' (Hp ops.size) w'→bZ φ0 H0.length w0 φ' (Hp ops.size).length w'→bG φ' (Hp ops.size).length w' (S ops.size) a'.tmps→eZ B0 φ' w' a'.defers→(∀b,b<base→(Hp ops.size)[b]?=H0[b]?)→Q .normal a' w') :
 Q .normal a w:=by
 have hp:p=ops.size:=by
  rcases Nat.lt_or_ge p ops.size with h1 | h1
  ·have:=(hf h1).2;rw [hall p h1] at this;cases this
  ·have:=h.pn;omega
 subst hp
 have hpd:∀k,pd k=none:=fun k=>by
  cases hk:pd k with
  | none=>rfl
  | some cb=>have:=h.pend k cb hk;omega
 refine hQ a w ψ h.hr (h.ext.tobZ ?_) ⟨by rw [D.len _ (Nat.le_refl _)];exact h.size,fun t x hx=>?_⟩ h.marks h.low
 ·funext x
  apply propext
  rw [h.res x]
  refine ⟨fun h1=>h1.elim id fun hk=>?_,Or.inl⟩
  obtain ⟨k,hk⟩:=hk
  rw [hpd k] at hk;cases hk
 ·have ht:t<(S 0).length:=by
   rw [←D.len _ (Nat.le_refl _)];exact (List.getElem?_eq_some_iff.1 hx).1
  by_cases hw:∃k o',k<ops.size∧ops[k]?=some o'∧o'.dst=some t
  ·obtain ⟨k,o',hk,ho',hd⟩:=hw
   rw [D.new ho' hd ht _ (Nat.le_refl _) hk] at hx
   cases hx
   exact h.new k o' t ho' (hall k hk) hd ht (hpd k)
  ·rw [D.old _ (Nat.le_refl _) fun k o' hk ho' hd=>hw ⟨k,o',hk,ho',hd⟩] at hx
   exact h.old t x hx fun k o' ho' _ hd=>hw ⟨k,o',kn ho',ho',hd⟩
theorem Ga (hstep:qN P C N kk) (D:lX P C kk base ops B S Hp v c) (hH0:HR N φ0 H0 w0) (hbase:base≤H0.length) {r:Option Nat} (CG:gA r w0)
 {Q:Exit→Act→World→Prop} (hQ:∀a' w' φ',HR N φ' (Hp ops.size) w'→bZ φ0 H0.length w0 φ' (Hp ops.size).length w'→bG φ' (Hp ops.size).length w' (S ops.size) a'.tmps→eZ B0 φ' w' a'.defers→(∀b,b<base→(Hp ops.size)[b]?=H0[b]?)→Q .normal a' w') :
 ∀(fuel:Nat) (listed:Array Bool) (p:Nat) (pd:Nat→Option Nat) (ψ:fJ) (a:Act) (w:World),Fd listed ops.size≤fuel→yw ops listed→St N base B0 φ0 H0 w0 ops S Hp v c listed p pd ψ a w→(p<ops.size→2≤c p∧listed.getD p false=false)→
  wpAnyIn (Fw r) 0 P .any ops Q fuel listed a w:=by
 intro fuel
 induction fuel with
 | zero =>
  intro listed p pd ψ a w hu hD h hf
  have hall:=Au ops.size (Nat.le_zero.1 hu)
  refine ⟨?_,h.done D hf hall hQ⟩
  rw [List.eq_nil_iff_forall_not_mem]
  intro i hi
  obtain ⟨_,o,ho,_⟩:=mem_ready.1 hi
  have:=rl hi
  rw [hall i (kn ho)] at this
  cases this
 | succ fuel ih =>
  intro listed p pd ψ a w hu hD h hf
  refine ⟨fun he=>h.done D hf (AD D h.ls he) hQ,fun i hi=>?_⟩
  obtain ⟨_,o,ho,_⟩:=mem_ready.1 hi
  have hno:=rl hi
  have hlt:=kn ho
  have hsl:=h.slots D hf hD ho hi
  have hu':Fd (listed.setIfInBounds i true) ops.size≤fuel:=by
   have:=Id (by rw [h.ls];exact hlt) hno ops.size hlt
   omega
  have hrd:gA r w:=CG.monoR h.ext
  have hbase':base≤(Hp p).length:=Nat.le_trans hbase h.ext.le
  have next:∀{p' pd' ψ' a' w'},St N base B0 φ0 H0 w0 ops S Hp v c (listed.setIfInBounds i true) p' pd' ψ' a' w'→wpAnyIn (Fw r) 0 P .any ops Q fuel (listed.setIfInBounds i true) a' w':=by
   intro p' pd' ψ' a' w' h'
   obtain ⟨p2,pd2,ψ2,h2,hf2⟩:=St.advance D hH0.low hbase _ p' pd' ψ' (Nat.le_refl _) h'
   exact ih _ p2 pd2 ψ2 a' w' hu' (hD.set hi) h2 hf2
  unfold wpOpIn
  simp only [ho]
  have go:∀q,(q=p∧c i<2)∨(p=i∧q=i+1)→bF P C kk base ops o (iJ (looks ops o) (S i)) (Hp p)=some (v i,Hp q)→
   if Region.wanted o (yielded ops a.tmps) then o.wpIn (Fw r) 0 P a w (wpAnyIn (Fw r) 0 P .any ops Q fuel (listed.setIfInBounds i true)) Q else (∀f,o.about P w a.eval=some f→(Fw r).fn f)∧wpAnyIn (Fw r) 0 P .any ops Q fuel (listed.setIfInBounds i true) (a.put o.dst Go.undef) w :=
   fun q hq hst=>hstep base ops o _ (Hp p) (v i) (Hp q) hst hbase' h.hr hsl hrd _ Q fun V w' ψ' hv hr' hx hlow=>next (h.step D ho hno hq hv hr' hx hlow)
  by_cases hc:c i<2
  ·refine go p (.inl ⟨rfl,hc⟩) ?_
   by_cases hc0:c i=0
   ·exact (uU (Hp p) (D.step i o ho) (by rw [←D.cls i o ho];exact hc0)).1
   ·have hwin:∀k,k<ops.size→2≤c k→(B k i→k<p)∧(B i k→p≤k):=fun k hk h2=>by
     refine ⟨fun hb=>?_,fun hb=>?_⟩
     ·rcases Nat.lt_or_ge k p with h3 | h3
      ·exact h3
      ·obtain ⟨cb,h4⟩:=h.above k h3 hk h2 ((D.bits _ _ hb).ready hD hi)
       rw [h.solid D hf hD hi hb] at h4;cases h4
     ·rcases Nat.lt_or_ge k p with h3 | h3
      ·have:=(D.bits _ _ hb).listed hD (h.below k h3 h2)
       rw [hno] at this;cases this
      ·exact h3
    have hpp:p=ops.size∨(p<ops.size∧2≤c p):=by
     rcases Nat.lt_or_ge p ops.size with h3 | h3
     ·exact .inr ⟨h3,(hf h3).1⟩
     ·exact .inl (by have:=h.pn;omega)
    obtain ⟨H1,h1⟩:=D.again i o ho (by omega) p hpp hwin
    have:=pC h1 (by rw [←D.cls i o ho];omega)
    rw [h1,this]
  ·have hpi:p≤i:=by
    rcases Nat.lt_or_ge i p with h3 | h3
    ·have:=h.below i h3 (by omega)
     rw [hno] at this;cases this
    ·exact h3
   by_cases hpe:p=i
   ·subst hpe
    exact go (p+1) (.inr ⟨rfl,rfl⟩) (D.step p o ho)
   ·obtain ⟨h5,h6⟩:=hf (by omega)
    by_cases hc3:c i=3
    ·obtain ⟨hw,t,z,hop,hz,hv,hH⟩:=Cn (D.step i o ho) (by rw [←D.cls i o ho];exact hc3)
     rw [qI hsl hw,if_pos rfl]
     refine ⟨fun _ _=>trivial,?_⟩
     obtain ⟨inf,Z,h7,h8,h9,h10,h11⟩:=cZ (φ:=ψ) (w:=w) (n:=0) hz
     have hsem:o.semAt (Fw r).round a.eval=execOp a.eval o:=Oper.semAt_eq _ _ _ (by rw [hop];simp)
     have hrun:(execOp a.eval o).run P w=.ok (.value (.pointer (some ⟨w.heap.size,0,none⟩))) (w.alloc (.cells Z.cells t (0,0))):=by
      unfold execOp
      rw [hop]
      simp [Instr.alloc,h9,newVar,newRow]
     rw [hsem,hrun]
     refine next (h.ahead D hH0.ress ho hno hc3 hpi h11 hv hH fun φ n w=>?_)
     obtain ⟨_,Z',h7',h8',_,h10',_⟩:=cZ (φ:=φ) (w:=w) (n:=n) hz
     rw [h7] at h7'
     cases h7'
     rw [h8] at h8'
     cases h8'
     exact h10'
    ·exfalso
     have:=(D.bits _ _ (D.chg i hlt (by omega) hc3 p (by omega) h5)).ready hD hi
     rw [h6] at this;cases this
end Go.Proofs.Ev
namespace Go.Proofs.Ev
open Go.RowKit
variable {P:Program} {C:bD} {N:gH} {φ φ':fJ} {H H':ae} {w w':World} {k base:Nat}
theorem jP {ops:Array Oper} {n:Nat} {bef:Nat→Nat→Bool} {cls:Nat→Nat} {dst:Nat→Option Tmp} {val:Nat→AV} {ch:List Nat} {again:Nat→Nat→Option (AV×ae)} (h:nh ops n bef cls dst val ch again=true) {i:Nat} (hi:i<n) {o:Oper} (ho:ops[i]?=some o) :
 (∀e∈o.after,Region.binds .any e=true→e.on<i)∧
 (∀k d,k<n→k≠i→dst k=some d→dst i≠some d∧(d∈looks ops o→bef k i=true∨bef i k=true))∧
 (2≤cls i→cls i≠3→∀k∈ch,k<i→bef k i=true)∧
 (cls i=3→∀j,j<n→bef i j=true→∀k∈ch,k<i→bef k j=true)∧
 (cls i=1→∀p,(p∈ch∨p=n)→(∀k∈ch,(bef k i=true→k<p)∧(bef i k=true→p≤k))→∃v H1,again i p=some (v,H1)∧AV.beq v (val i)=true):=by
 unfold nh at h
 rw [List.all_eq_true] at h
 have h:=h i (List.mem_range.2 hi)
 simp only [ho,Bool.and_eq_true,List.all_eq_true,List.mem_range,Bool.or_eq_true,beq_iff_eq,decide_eq_true_eq,Bool.not_eq_true',bne_iff_ne,ne_eq] at h
 obtain ⟨⟨⟨⟨h1,h2⟩,h3⟩,h4⟩,h5⟩:=h
 refine ⟨fun e he hb=>?_,fun k d hk hne hd=>?_,fun h6 h7 k hk hki=>?_,fun h6 j hj hb k hk hki=>?_,fun h6 p hp hw=>?_⟩
 ·rcases h1 e (by simpa using he) with h | h
  ·rw [hb] at h;cases h
  ·exact h
 ·rcases h2 k hk with h | h
  ·exact absurd h hne
  ·rw [hd] at h
   simp only [Bool.and_eq_true,bne_iff_ne,ne_eq,Bool.or_eq_true,Bool.not_eq_true'] at h
   refine ⟨h.1,fun hm=>?_⟩
   rcases h.2 with (h8 | h8) | h8
   ·rw [List.contains_iff_mem.2 hm] at h8;cases h8
   ·exact .inl h8
   ·exact .inr h8
 ·rcases h3 with (h | h) | h
  ·omega
  ·exact absurd h h7
  ·rcases h k hk with h | h
   ·omega
   ·exact h
 ·rcases h4 with h | h
  ·simp [h6] at h
  ·rcases h j hj with h | h
   ·rw [hb] at h;cases h
   ·rcases h k hk with h | h
    ·omega
    ·exact h
 ·rcases h5 with h | h
  ·simp [h6] at h
  ·have hpm:p∈ch++[n]:=by simpa using hp
   rcases h p hpm with h | h
   ·exfalso
    have:(ch.all fun k=>(!bef k i||decide (k<p))&&(!bef i k||decide (p≤k)))=true:=by
     rw [List.all_eq_true]
     intro k hk
     obtain ⟨h8,h9⟩:=hw k hk
     cases hb1:bef k i<;>cases hb2:bef i k<;>simp [hb1,hb2] at h8 h9 ⊢<;>omega
    rw [this] at h
    cases h
   ·split at h
    ·rename_i v H1 he
     exact ⟨v,H1,he,h⟩
    ·cases h
theorem zO (hmix:P.follows .mixedOrders=true) (hstep:qN P C N k) {id:Nat} {ops:Array Oper} {s s':List AV} {tr:List Tr} (hrt:mB P ops (fun o s H=>bF P C k base ops o s H) ops.toList s H=some (tr,s',H'))
 (hok:jJ ops tr H' (fun o s H=>bF P C k base ops o s H)=true) {a:Act} {r:Option Nat} {B0:Nat} (hbase:base≤H.length) (hH:HR N φ H w) (hs:bG φ H.length w s a.tmps) (hm:eZ B0 φ w a.defers) (hr:gA r w)
 {Q:Exit→Act→World→Prop} (hQ:∀a' w' φ',HR N φ' H' w'→bZ φ H.length w φ' H'.length w'→bG φ' H'.length w' s' a'.tmps→eZ B0 φ' w' a'.defers→(∀b,b<base→H'[b]?=H[b]?)→Q .normal a' w'):(Code.region id ops true).wpIn (Fw r) 0 P Q a w:=by
 obtain ⟨hlen,S,Hp,hS0,hH0,hSn,hHn,hst⟩:=lP _ _ _ _ _ _ hrt
 have hsz:ops.toList.length=ops.size:=by simp
 rw [hsz] at hlen hSn hHn
 have hget:∀{i:Nat} {o:Oper},ops[i]?=some o→ops.toList[i]?=some o:=fun h=>by rw [Array.getElem?_toList];exact h
 unfold jJ at hok
 simp only at hok
 have hch:∀{j:Nat},j∈(List.range tr.length).filter (fun i=>2≤(tr.getD i default).c)↔j<ops.size∧2≤(tr.getD j default).c:=by
  intro j;rw [List.mem_filter,List.mem_range,hlen];simp
 have hi':∀{i:Nat},i<ops.size→i<tr.length:=fun h=>by rw [hlen];exact h
 have D:lX P C k base ops (fun m i=>(((vI ops.toList []).getD i 0).testBit m)=true) S Hp (fun i=>(tr.getD i default).v) (fun i=>(tr.getD i default).c):=by
  refine ⟨fun m i hb=>oO ops.toList [] (by simp) (fun j m hj=>by simp at hj) i m hb,fun i o ho=>(hst i o (hget ho)).2.2.1,fun i o ho=>(hst i o (hget ho)).2.2.2.1,fun i o ho=>(hst i o (hget ho)).2.2.2.2,
   fun i o ho=>(jP hok (hi' (kn ho)) ho).1,fun i m o o' t ho ho' hne hd hd'=>?_,fun i m o o' t ho ho' hne hd hl=>?_,fun i hi h2 h3 m hm h4=>?_,fun i hi h3 j hj hb m hm h4=>?_,fun i o ho h1 p hp hw=>?_⟩
  ·have:=((jP hok (hi' (kn ho)) ho).2.1 m t (hi' (kn ho')) hne (by rw [ho'];exact hd)).1
   rw [ho] at this
   exact this hd'
  ·exact ((jP hok (hi' (kn ho)) ho).2.1 m t (hi' (kn ho')) hne (by rw [ho'];exact hd)).2 hl
  ·obtain ⟨o,ho⟩:=nt hi
   exact (jP hok (hi' hi) ho).2.2.1 h2 h3 m (hch.2 ⟨by omega,h4⟩) hm
  ·obtain ⟨o,ho⟩:=nt hi
   exact (jP hok (hi' hi) ho).2.2.2.1 h3 j (hi' hj) hb m (hch.2 ⟨by omega,h4⟩) hm
  ·obtain ⟨v,H1,h2,h3⟩:=(jP hok (hi' (kn ho)) ho).2.2.2.2 h1 p (by
    rcases hp with h | h
    ·exact .inr (by rw [hlen];exact h)
    ·exact .inl (hch.2 h)) fun m hm=>hw m (hch.1 hm).1 (hch.1 hm).2
   rw [ho] at h2
   simp only at h2
   refine ⟨H1,?_⟩
   rw [←FO _ _ h3,←(hst i o (hget ho)).1]
   have hpp:(if p<tr.length then (tr.getD p default).h else H')=Hp p:=by
    rcases hp with h | h
    ·rw [if_neg (by omega),h,hHn]
    ·rw [if_pos (by omega)]
     obtain ⟨o',ho'⟩:=nt h.1
     exact (hst p o' (hget ho')).2.1
   rw [←hpp]
   exact h2
 refine wpIn_region_any hmix ?_
 change wpAnyIn (Fw r) 0 P .any ops Q ops.size (Array.replicate ops.size false) a w.drew
 have hfalse:∀i,(Array.replicate ops.size false).getD i false=true→False:=fun i hi=>by
  simp only [Array.getD_eq_getD_getElem?,Array.getElem?_replicate] at hi
  split at hi<;>cases hi
 have hinit:St N base B0 φ H w.drew ops S Hp (fun i=>(tr.getD i default).v) (fun i=>(tr.getD i default).c) (Array.replicate ops.size false) 0 (fun _=>none) φ a w.drew:=by
  refine ⟨by simp,Nat.zero_le _,fun m hm=>by omega,fun m _ _ _ hl=>(hfalse m hl).elim,fun m cb hm=>(by cases hm),fun m m' cb hm=>(by cases hm),fun x=>⟨.inl,fun h=>h.elim (fun h=>h) fun ⟨_,h⟩=>(by cases h)⟩,by rw [hH0];exact hH.drew,by rw [hH0];exact bZ.refl.toR,by rw [hS0];exact hs.1,
   fun t x hx _=>?_,fun m o t _ hl=>(hfalse m hl).elim,hm.mono (bZ.drew (n:=H.length)),fun b _=>by rw [hH0]⟩
  rw [hS0] at hx
  rw [hH0]
  obtain ⟨V,h1,h2⟩:=hs.2 t x hx
  exact ⟨V,h1,h2.mono bZ.drew⟩
 obtain ⟨p,pd,ψ,h1,h2⟩:=St.advance D hH.drew.low hbase _ 0 _ _ (Nat.le_refl _) hinit
 refine Ga hstep D hH.drew hbase (hr.mono (φ':=φ) (n:=H.length) (n':=H.length) bZ.drew) (fun a' w' φ' g1 g2 g3 g4 g5=>?_) ops.size _ p pd ψ a w.drew (wQ _ _) (fun j o _ hj=>(hfalse j hj).elim) h1 h2
 rw [hHn] at g1 g2 g3 g5
 rw [hSn] at g3
 exact hQ a' w' φ' g1 (bZ.drew.trans g2) g3 g4 g5
end Go.Proofs.Ev
namespace Go.Proofs.Ev
open Go.RowKit
variable {P:Program} {C:bD} {N:gH} {φ φ':fJ} {H H':ae} {w w':World} {n:Nat}
def wV (P:Program) (C:bD) (N:gH) (k:Nat):Prop :=
 ∀base c s H e s' H',aP P C k base (.loop c) s H=some (e,s',H')→∀{φ w} {a:Act} {r B},base≤H.length→HR N φ H w→bG φ H.length w s a.tmps→eZ B φ w a.defers→B≤w.heap.size→gA r w→
  ∀Q:Exit→Act→World→Prop,(∀a' w' φ',HR N φ' H' w'→bZ φ H.length w φ' H'.length w'→bG φ' H'.length w' s' a'.tmps→eZ B φ' w' a'.defers→(∀b,b<base→H'[b]?=H[b]?)→Q e.toExit a' w')→Code.roundsIn (Fw r) 0 P c Q k a w
theorem Jb {k:Nat} (hcode:qL P C N k) (hloop:wV P C N k):wV P C N (k+1):=by
 intro base c s H e s' H' h φ w a r B hbase hH hs hm hB hr Q hQ
 rw [roundsIn_succ]
 simp only [aP] at h
 cases hc:aP P C k base c s H with
 | none=>rw [hc] at h;cases h
 | some x =>
  obtain ⟨e1,s1,H1⟩:=x
  rw [hc] at h
  refine hcode base c s H e1 s1 H1 hc hbase hH hs hm hB hr _ fun a1 w1 φ1 h1 hx1 hs1 hm1 hl1=>?_
  cases e1 with
  | normal =>
   simp only at h
   exact hloop base c s1 H1 e s' H' h (Nat.le_trans hbase hx1.le) h1 hs1 hm1 (Nat.le_trans hB hx1.size) (hr.mono hx1) Q
    fun a' w' φ' h2 hx2 hs2 hm2 hl2=>hQ a' w' φ' h2 (hx1.trans hx2) hs2 hm2 fun b hb=>(hl2 b hb).trans (hl1 b hb)
  | exit id=>simp only [Option.some.injEq,Prod.mk.injEq] at h;obtain ⟨rfl,rfl,rfl⟩:=h;exact hQ a1 w1 φ1 h1 hx1 hs1 hm1 hl1
  | ret=>simp only [Option.some.injEq,Prod.mk.injEq] at h;obtain ⟨rfl,rfl,rfl⟩:=h;exact hQ a1 w1 φ1 h1 hx1 hs1 hm1 hl1
theorem Gf (hH:HR N φ H w) {b:Nat} {L:Dh} (hL:φ b=some L) {rec rec':Loop} (hl:w.heap[L.cb]?=some (.loop rec)) :
 HR N (dO φ b) (H.set b .dead) (bA w L.cb (.loop rec'))∧bZ φ H.length w (dO φ b) (H.set b .dead).length (bA w L.cb (.loop rec')):=by
 have hd:HR N (dO φ b) (H.set b .dead) w:=hH.del b
 have hnl:cG (dO φ b) L.cb:=by
  refine ⟨fun k L' hL' e=>?_,hH.resn b L hL⟩
  simp only [dO] at hL'
  split at hL'
  ·cases hL'
  ·rename_i hne;exact hne (hH.inj k b L' L hL' hL e)
 refine ⟨hd.putObj hl (by intro c T fr e;cases e) hnl,?_⟩
 refine ⟨by simp,by simp,fun k hk L' hL'=>?_,fun cb o hc hn=>(bm (hn.1 b L hL)).trans hc,fun cb hcb hn=>?_,fun cb r hr=>?_,rfl,fun cb o hr hc=>(bm fun e=>hH.resn b L hL (by rw [e];exact hr)).trans hc,.refl⟩
 ·simp only [dO] at hL'
  split at hL'
  ·cases hL'
  ·exact ⟨L',hL',Nat.le_refl _,fun _=>rfl⟩
 ·refine ⟨fun k L' hL'=>?_,hn.2⟩
  simp only [dO] at hL'
  split at hL'
  ·cases hL'
  ·exact hn.1 k L' hL'
 ·by_cases e:L.cb=cb
  ·subst e;exact ⟨rec',cI (Array.getElem?_eq_some_iff.1 hr).1⟩
  ·exact ⟨r,(bm e).trans hr⟩
theorem IJ {k:Nat} (hS:C.Sound P N) (hcode:qL P C N k) (hseq:Cv P C N k) (hstep:qN P C N k) (hfunc:wU P C N k) (hloop:wV P C N (k+1)):qL P C N (k+1):=by
 intro base c s H e s' H' h φ w a r B hbase hH hs hm hB hr Q hQ
 cases c with
 | skip=>simp only [aP,Option.some.injEq,Prod.mk.injEq] at h;obtain ⟨rfl,rfl,rfl⟩:=h;exact wpIn_skip (hQ a w φ hH .refl hs hm fun _ _=>rfl)
 | label l=>simp only [aP,Option.some.injEq,Prod.mk.injEq] at h;obtain ⟨rfl,rfl,rfl⟩:=h;exact wpIn_label (hQ a w φ hH .refl hs hm fun _ _=>rfl)
 | ret=>simp only [aP,Option.some.injEq,Prod.mk.injEq] at h;obtain ⟨rfl,rfl,rfl⟩:=h;exact wpIn_ret (hQ a w φ hH .refl hs hm fun _ _=>rfl)
 | exit id=>simp only [aP,Option.some.injEq,Prod.mk.injEq] at h;obtain ⟨rfl,rfl,rfl⟩:=h;exact wpIn_exit (hQ a w φ hH .refl hs hm fun _ _=>rfl)
 | goto l=>simp [aP] at h
 | scope b=>simp [aP] at h
 | refuse y=>simp [aP] at h
 | seq x y =>
  simp only [aP] at h
  cases hc:aP P C k base x s H with
  | none=>rw [hc] at h;cases h
  | some p =>
   obtain ⟨e1,s1,H1⟩:=p
   rw [hc] at h
   refine wpIn_seq (hcode base x s H e1 s1 H1 hc hbase hH hs hm hB hr _ fun a1 w1 φ1 h1 hx1 hs1 hm1 hl1=>?_)
   cases e1 with
   | normal =>
    simp only at h
    exact hcode base y s1 H1 e s' H' h (Nat.le_trans hbase hx1.le) h1 hs1 hm1 (Nat.le_trans hB hx1.size) (hr.mono hx1) Q
     fun a' w' φ' h2 hx2 hs2 hm2 hl2=>hQ a' w' φ' h2 (hx1.trans hx2) hs2 hm2 fun b hb=>(hl2 b hb).trans (hl1 b hb)
   | exit id=>simp only [Option.some.injEq,Prod.mk.injEq] at h;obtain ⟨rfl,rfl,rfl⟩:=h;exact hQ a1 w1 φ1 h1 hx1 hs1 hm1 hl1
   | ret=>simp only [Option.some.injEq,Prod.mk.injEq] at h;obtain ⟨rfl,rfl,rfl⟩:=h;exact hQ a1 w1 φ1 h1 hx1 hs1 hm1 hl1
 | cond x y z =>
  simp only [aP] at h
  have hx:=eP hs x
  split at h
  ·rename_i hv
   rw [hv] at hx
   generalize hX:a.eval x=X at hx
   cases hx
   exact wpIn_cond_true hX (hcode base y s H e s' H' h hbase hH hs hm hB hr Q hQ)
  ·rename_i hv
   rw [hv] at hx
   generalize hX:a.eval x=X at hx
   cases hx
   exact wpIn_cond_false hX (hcode base z s H e s' H' h hbase hH hs hm hB hr Q hQ)
  ·cases h
 | block id b =>
  simp only [aP] at h
  cases hc:aP P C k base b s H with
  | none=>rw [hc] at h;cases h
  | some p =>
   obtain ⟨e1,s1,H1⟩:=p
   rw [hc] at h
   refine wpIn_block (hcode base b s H e1 s1 H1 hc hbase hH hs hm hB hr _ fun a1 w1 φ1 h1 hx1 hs1 hm1 hl1=>?_)
   cases e1 with
   | normal=>simp only [Option.some.injEq,Prod.mk.injEq] at h;obtain ⟨rfl,rfl,rfl⟩:=h;exact hQ a1 w1 φ1 h1 hx1 hs1 hm1 hl1
   | ret=>simp only [Option.some.injEq,Prod.mk.injEq] at h;obtain ⟨rfl,rfl,rfl⟩:=h;exact hQ a1 w1 φ1 h1 hx1 hs1 hm1 hl1
   | exit i =>
    simp only at h
    simp only [jC.toExit,Exit.inBlock]
    split at h
    ·rename_i hi
     simp only [Option.some.injEq,Prod.mk.injEq] at h;obtain ⟨rfl,rfl,rfl⟩:=h
     rw [if_pos hi];exact hQ a1 w1 φ1 h1 hx1 hs1 hm1 hl1
    ·rename_i hi
     simp only [Option.some.injEq,Prod.mk.injEq] at h;obtain ⟨rfl,rfl,rfl⟩:=h
     rw [if_neg hi];exact hQ a1 w1 φ1 h1 hx1 hs1 hm1 hl1
 | loop b=>exact wpIn_loop_rounds (k+1) (hloop base b s H e s' H' h hbase hH hs hm hB hr Q hQ)
 | region id ops draw =>
  cases draw with
  | true =>
   simp only [aP] at h
   split at h
   ·rename_i tr s1 H1 hrt
    split at h
    ·rename_i hok
     simp only [Option.some.injEq,Prod.mk.injEq] at h;obtain ⟨rfl,rfl,rfl⟩:=h
     exact zO hS.mixed hstep hrt hok hbase hH hs hm hr hQ
    ·cases h
   ·cases h
  | false =>
   simp only [aP] at h
   cases hc:jz P C k base ops ops.toList s H with
   | none=>rw [hc] at h;cases h
   | some p =>
    obtain ⟨s1,H1⟩:=p
    rw [hc] at h
    simp only [Option.some.injEq,Prod.mk.injEq] at h;obtain ⟨rfl,rfl,rfl⟩:=h
    refine wpIn_region (hseq base ops ops.toList s H s1 H1 hc (List.range ops.size) ?_ hbase hH hs hm hB hr Q hQ)
    apply List.ext_getElem?
    intro i
    rw [List.getElem?_map,List.getElem?_map]
    rcases Nat.lt_or_ge i ops.size with hi | hi
    ·rw [List.getElem?_range hi,Array.getElem?_toList];simp [hi]
    ·rw [List.getElem?_eq_none (by simpa using hi),List.getElem?_eq_none (by simpa using hi)];rfl
 | rangeFunc g ps assign body =>
  simp only [aP] at h
  have hg:=eP hs g
  split at h
  ·rename_i f caps hv
   rw [hv] at hg
   cases hf:cx P C k base f (.yld H.length::caps) (H++[.loop true none s ps.toList assign body]) with
   | none=>rw [hf] at h;cases h
   | some p =>
    obtain ⟨v2,H2⟩:=p
    rw [hf] at h
    simp only at h
    obtain ⟨hent,hcall⟩:=hfunc base f _ _ v2 H2 hf
    generalize hG:a.eval g=G at hg
    cases hg with
    | fn hlc hcaps =>
    rename_i Cs
    have enter:∀(w1:World) (l:Nat) (mark:List Deferred) (dfr:Nat) (fid:FuncId),HR N (bE φ H.length ⟨0,l,0⟩) (H++[.loop true none s ps.toList assign body]) w1→bZ φ H.length w (bE φ H.length ⟨0,l,0⟩) (H.length+1) w1→
     eZ B (bE φ H.length ⟨0,l,0⟩) w1 (mark++a.defers)→
     CallsIn (Fw r) 0 P f (#[Value.func (Fn.yield l) #[] #[]]++Cs) w1 (rangePost (Fw r) 0 P l Q { a with defers:=mark++a.defers }):=by
     intro w1 l mark dfr fid h1 hx1 hm1
     have hargs:kF (fun v V=>RV (bE φ H.length ⟨0,l,0⟩) (H++[bL.loop true none s ps.toList assign body]).length w1 v V) (.yld H.length::caps) (#[Value.func (Fn.yield l) #[] #[]]++Cs).toList:=by
      rw [Array.toList_append]
      refine .cons (.yld (by simp) fun L hL _=>?_) (kF.of_get (by simp [hlc]) fun i x y hx hy=>?_)
      ·simp only [bE,if_true,Option.some.injEq] at hL;subst hL;rfl
      ·exact (hcaps i x y hx (by simpa using hy)).mono (by simpa using hx1)
     refine jp ((hcall (by simpa using Nat.le_succ_of_le hbase) h1 hargs).mono ?_)
     rintro e2 w2 ⟨V,φ2,rfl,hv2,h2,hx2,hl2⟩
     have hlow:∀b,b<base→(H2.set H.length .dead)[b]?=H[b]?:=by
      intro b hb
      rw [List.getElem?_set_ne (by omega),hl2 b hb,List.getElem?_append_left (by omega)]
     have hxx:bZ φ H.length w φ2 H2.length w2:=hx1.trans (by simpa using hx2)
     have finish:∀ready pend sl p1 a1 b1,H2[H.length]?=some (.loop ready pend sl p1 a1 b1)→(ready=true∧pend=none∨ready=false∧pend≠none)→
      ∃w3,(Instr.endLoop l).run P w2=.ok pend w3∧∃φ3,HR N φ3 (H2.set H.length .dead) w3∧bZ φ H.length w φ3 (H2.set H.length .dead).length w3∧eZ B φ3 w3 (mark++a.defers):=by
      intro ready pend sl p1 a1 b1 hblk hst
      obtain ⟨L,rec,g1,g2,g3,g4,g5,g6,g7,g8,g9⟩:=h2.loop _ _ _ _ _ _ _ hblk
      have hcb:L.cb=l:=by
       obtain ⟨L0,e1,e2,e3⟩:=hx2.loc H.length (by simp) L g1
       simp only [bE,if_true,Option.some.injEq] at e1
       subst e1
       rw [←e3 (by simp;omega)]
      have hnb:rec.state≠.busy:=by
       rw [g4]
       rcases hst with ⟨rfl,rfl⟩ | ⟨rfl,hp⟩
       ·simp
       ·cases pend with
        | none=>exact absurd rfl hp
        | some c=>simp
      obtain ⟨r1,r2⟩:=Gf h2 g1 (rec':={ rec with state:=.exhausted }) g3
      refine ⟨bA w2 L.cb (.loop { rec with state:=.exhausted }),?_,dO φ2 H.length,r1,hxx.trans r2,?_⟩
      ·rw [←hcb,←g5];exact run_endLoop g3 hnb
      ·exact (hm1.mono hx2).mono r2
     split at h
     ·rename_i sl p1 a1 b1 hblk
      simp only [Option.some.injEq,Prod.mk.injEq] at h;obtain ⟨rfl,rfl,rfl⟩:=h
      obtain ⟨w3,k1,φ3,k2,k3,k4⟩:=finish _ _ _ _ _ _ hblk (.inl ⟨rfl,rfl⟩)
      exact ⟨none,w3,k1,hQ _ w3 φ3 k2 k3 (hs.mono k3) k4 hlow⟩
     ·rename_i c sl p1 a1 b1 hblk
      obtain ⟨w3,k1,φ3,k2,k3,k4⟩:=finish _ _ _ _ _ _ hblk (.inr ⟨rfl,by simp⟩)
      refine ⟨some c,w3,k1,?_⟩
      refine hcode base c s _ e s' H' h (a:={ a with defers:=mark++a.defers }) (by simpa using Nat.le_trans hbase hxx.le) k2 (hs.mono k3) k4 (Nat.le_trans hB k3.size) (hr.mono k3) Q ?_
      intro a' w' φ' h4 hx4 hs4 hm4 hl4
      exact hQ a' w' φ' h4 (k3.trans hx4) hs4 hm4 fun b hb=>(hl4 b hb).trans (hlow b hb)
     ·cases h
    refine wpIn_rangeFunc fun fid _=>?_
    have hres:∀(l:Nat) (w1:World),(resolve a.eval (rangeCall g l) 0).run P w1=.ok { target:=.fn (.func f) Cs,args:=#[Value.func (Fn.yield l) #[] #[]] } w1:=by
     intro l w1
     simp only [resolve]
     rw [hG]
     simp [Deferred.ofValue,Act.eval]
    have hinv:∀(l:Nat) (w1:World),(invoke (.fn (.func f) Cs) #[Value.func (Fn.yield l) #[] #[]]).run P w1=.ok (.enter f (#[Value.func (Fn.yield l) #[] #[]]++Cs)) w1:=by
     intro l w1
     simp only [invoke,hent]
    cases r with
    | none =>
     have hrec:HR N (bE φ H.length ⟨0,w.heap.size+1,0⟩) (H++[.loop true none s ps.toList assign body]) ((w.alloc (.deferred (some []))).alloc (.loop { state:=.ready,pending:=none,fn:=fid,tmps:=a.tmps,params:=ps,assign,body,defers:=w.heap.size })):=by
      have h0:=hH.alloc_out (.deferred (some []))
      have:=h0.alloc (.loop { state:=.ready,pending:=none,fn:=fid,tmps:=a.tmps,params:=ps,assign,body,defers:=w.heap.size }) 0 0 (.loop true none s ps.toList assign body) (by simp) (by simp) (by simp)
       (by intro _ _ _ _ _ _ e';cases e';exact ⟨_,rfl,rfl,by simp,rfl,rfl,rfl,rfl,hs.mono (bZ.alloc_out _)⟩)
      simpa using this
     have hx:bZ φ H.length w (bE φ H.length ⟨0,w.heap.size+1,0⟩) (H.length+1) ((w.alloc (.deferred (some []))).alloc (.loop { state:=.ready,pending:=none,fn:=fid,tmps:=a.tmps,params:=ps,assign,body,defers:=w.heap.size })):=by
      have h1:bZ φ H.length w φ H.length (w.alloc (.deferred (some []))):=bZ.alloc_out _
      have h2:=h1.trans (bZ.alloc (.loop { state:=.ready,pending:=none,fn:=fid,tmps:=a.tmps,params:=ps,assign,body,defers:=w.heap.size }) 0 0)
      simpa using h2
     refine ⟨w.heap.size+1,[{ target:=.collected w.heap.size,args:=#[] }],_,_,_,f,_,_,run_enterLoop_outer _ _ _ _ _,hres _ _,fun _ _=>trivial,hinv _ _,fun hd=>by simp [Fw,Fence.wide] at hd,enter _ _ _ 0 fid hrec hx ?_⟩
     refine .cons hB ?_ ?_ ?_ (hm.mono hx)
     ·exact (aY (by simp)).trans bo
     ·refine ⟨fun k L hL=>?_,fun hres=>by have:=hH.ress _ hres;simp at this⟩
      simp only [bE] at hL
      split at hL
      ·cases hL;simp
      ·exact hH.fresh_cb hL
     ·intro d hd ht
      have:∀{ds:List Deferred},eZ B φ w ds→∀d∈ds,d.target≠Target.collected w.heap.size:=by
       intro ds hmk
       induction hmk with
       | nil=>intro d hd;simp at hd
       | cons _ hk _ _ _ ih =>
        intro d hd
        rcases List.mem_cons.1 hd with rfl | hd
        ·intro e';cases e';have:=(Array.getElem?_eq_some_iff.1 hk).1;omega
        ·exact ih d hd
      exact this hm d hd ht
    | some l0 =>
     obtain ⟨rec0,hrec0⟩:=hr l0 rfl
     have hrec:HR N (bE φ H.length ⟨0,w.heap.size,0⟩) (H++[.loop true none s ps.toList assign body]) (w.alloc (.loop { state:=.ready,pending:=none,fn:=fid,tmps:=a.tmps,params:=ps,assign,body,defers:=rec0.defers })) :=
      hH.alloc _ 0 0 (.loop true none s ps.toList assign body) (by simp) (by simp) (by simp)
       (by intro _ _ _ _ _ _ e';cases e';exact ⟨_,rfl,rfl,by simp,rfl,rfl,rfl,rfl,hs⟩)
     refine ⟨w.heap.size,[],_,_,_,f,_,_,run_enterLoop_inner hrec0 _ _ _ _ _,hres _ _,fun _ _=>trivial,hinv _ _,fun hd=>by simp [Fw,Fence.wide] at hd,enter _ _ _ 0 fid hrec (bZ.alloc _ 0 0) (hm.mono (bZ.alloc _ 0 0:bZ φ H.length w _ _ _))⟩
  ·cases h
theorem qO (hS:C.Sound P N):∀k,qL P C N k∧Cv P C N k∧qN P C N k∧Az P C N k∧wU P C N k∧wV P C N k:=by
 intro k
 induction k with
 | zero =>
  refine ⟨?_,?_,?_,?_,?_,?_⟩
  ·intro base c s H e s' H' h;simp [aP] at h
  ·intro base ops l s H s' H' h;simp [jz] at h
  ·intro base ops o s H v H' h;simp [bF] at h
  ·intro base f args H v H' h;unfold dA at h;cases h
  ·intro base f args H v H' h;simp [cx] at h
  ·intro base c s H e s' H' h;simp [aP] at h
 | succ k ih =>
  obtain ⟨h1,h2,h3,h4,h5,h6⟩:=ih
  have hl:=Jb h1 h6
  exact ⟨IJ hS h1 h2 h3 h5 hl,Mk h3 h2,J6 hS h4,IG h5 h1,IW hS h1,hl⟩
end Go.Proofs.Ev
namespace Go.Proofs.Ev
open Go.Proofs
variable {N:gH} {φ:fJ} {H:ae} {w w':World}
set_option maxRecDepth 100000 in
set_option maxHeartbeats 1000000 in
theorem AM (a:Addr) (cap:Nat):CallsIn (Fw none) 0 Tryz.prog 140 #[.slice (some a) 0 cap] w fun e w2=>e=.returned (.slice (some ⟨w.heap.size,0,none⟩) 0 0)∧w2=w.alloc (Obj.cells #[] 25):=by
 refine callsIn_of_wp Tryz.func140 rfl trivial ?_ rfl
 have hn:Tryz.f140.ntmps=8:=rfl
 simp only [hn,List.size_toArray,List.length_cons,List.length_nil,Nat.reduceAdd,Nat.reduceSub,Array.replicate_succ,Array.replicate_zero,List.push_toArray,List.append_toArray,List.nil_append,List.cons_append]
 gi_wp2
 rw [Lib.run_eql_slice_nil w 34 25 (some a) 0 cap 0 0 (by kernel_rfl)]
 simp only [Result.andThen,Option.isNone]
 gi_wp2
 go_ret
 exact ⟨rfl,rfl⟩
set_option maxRecDepth 100000 in
set_option maxHeartbeats 1000000 in
theorem rM (cap:Nat):CallsIn (Fw none) 0 Tryz.prog 140 #[.slice none 0 cap] w fun e w2=>e=.returned (.slice none 0 0)∧w2=w:=by
 refine callsIn_of_wp Tryz.func140 rfl trivial ?_ rfl
 have hn:Tryz.f140.ntmps=8:=rfl
 simp only [hn,List.size_toArray,List.length_cons,List.length_nil,Nat.reduceAdd,Nat.reduceSub,Array.replicate_succ,Array.replicate_zero,List.push_toArray,List.append_toArray,List.nil_append,List.cons_append]
 gi_wp2
 rw [Lib.run_eql_slice_nil w 34 25 none 0 cap 0 0 (by kernel_rfl)]
 simp only [Result.andThen,Option.isNone]
 gi_wp2
 go_ret
 exact ⟨rfl,rfl⟩
def Dv:bD:=⟨fun _=>none,fun _=>false,fun _=>false,fun _=>none⟩
theorem qm:∀(f:Nat) (fn:Func),Tryz.prog.funcs[f]?=some fn→fn.body.isSome=true→(fn.name== "runtime.NumGoroutine")=false:=by
 have h:Tryz.prog.funcs.all (fun fn=>!(fn.body.isSome&&fn.name== "runtime.NumGoroutine"))=true:=by kernel_rfl
 intro f fn hf hb
 obtain ⟨hi,rfl⟩:=Array.getElem?_eq_some_iff.1 hf
 have:=(Array.all_eq_true.1 h) f hi
 rw [hb] at this
 simpa using this
theorem jZ {N:gH} (hT:fS Tryz.prog N):Dv.Sound Tryz.prog N:=⟨⟨fun _ _ h=>by cases h⟩,by kernel_rfl,hT,qm,fun _ _ h=>by cases h⟩
open Classical in
noncomputable def rP (P:Program) (C:bD) (f:FuncId) (base:Nat) (args:List AV) (H:ae):Option (AV×ae) :=
 if h:∃r,∃n,cx P C n base f args H=some r then some (Classical.choose h) else none
theorem A3 {P:Program} {C:bD} {f:FuncId} {base:Nat} {args:List AV} {H:ae} {r:AV×ae} (h:rP P C f base args H=some r):∃n,cx P C n base f args H=some r:=by
 unfold rP at h
 split at h
 ·rename_i h0
  cases h
  exact Classical.choose_spec h0
 ·cases h
theorem tL {P:Program} {C:bD} {f:FuncId} {base:Nat} {args:List AV} {H:ae} {v:AV} {H':ae} (h:dU P C base f args H fun v' X=>v'=v∧X=H'):rP P C f base args H=some (v,H'):=by
 obtain ⟨n,v1,X,h1,rfl,rfl⟩:=h
 have h0:∃r,∃n,cx P C n base f args H=some r:=⟨_,n,h1⟩
 unfold rP
 rw [dif_pos h0]
 obtain ⟨m,h2⟩:=Classical.choose_spec h0
 have e1:=ke (Nat.le_max_left n m) h1
 have e2:=ke (Nat.le_max_right n m) h2
 rw [e1] at e2
 rw [←Option.some.inj e2]
theorem zf {P:Program} {C:bD} {N:gH} (hC:C.Sound P N) {f:FuncId} (hb:∃fn:Func,P.funcs[f]?=some fn∧fn.body.isSome=true):gL P N f (rP P C f):=by
 refine ⟨hb,fun base args H v H' h φ w Vs hbs hH ht=>?_⟩
 obtain ⟨n,h1⟩:=A3 h
 exact ((qO hC n).2.2.2.2.1 base _ args H v H' h1).2 hbs hH ht
noncomputable def pt (base:Nat) (args:List AV) (H:ae):Option (AV×ae) :=
 match args with
 | [.lst [] _]=>some (.lst [] true,H)
 | [.nils]=>some (.lst [] true,H)
 | _=>rP Tryz.prog Dv 140 base args H
theorem FZ {N:gH} (hT:fS Tryz.prog N):gL Tryz.prog N 140 pt:=by
 refine ⟨⟨_,Tryz.func140,rfl⟩,fun base args H v H' h φ w Vs hb hH ht=>?_⟩
 unfold pt at h
 split at h
 ·rename_i e
  cases h
  obtain ⟨X,rfl,h1⟩:=qG ht
  cases h1 with
  | lst Vs esz hlen hcap he hb hr =>
   rename_i bs len cap
   have hl0:len=0:=hlen
   subst hl0
   cases bs with
   | none =>
    refine (rM cap).mono ?_
    rintro e w' ⟨rfl,rfl⟩
    exact ⟨_,φ,rfl,.lst (fun _ _=>.pointer none) 0 rfl (Nat.le_refl _) (fun _=>rfl) (fun h=>absurd rfl h) (fun i row hi=>by simp at hi),hH,bZ.refl,fun _ _=>rfl⟩
   | some a =>
    refine (AM a cap).mono ?_
    rintro e w' ⟨rfl,rfl⟩
    exact ⟨_,φ,rfl,.lst (fun _ _=>.pointer none) 0 rfl (Nat.le_refl _) (fun _=>rfl) (fun h=>absurd rfl h) (fun i row hi=>by simp at hi),hH.alloc_out _,bZ.alloc_out _,fun _ _=>rfl⟩
 ·cases h
  obtain ⟨X,rfl,h1⟩:=qG ht
  cases h1
  refine (rM 0).mono ?_
  rintro e w' ⟨rfl,rfl⟩
  exact ⟨_,φ,rfl,.lst (fun _ _=>.pointer none) 0 rfl (Nat.le_refl _) (fun _=>rfl) (fun h=>absurd rfl h) (fun i row hi=>by simp at hi),hH,bZ.refl,fun _ _=>rfl⟩
 ·exact (zf (jZ hT) ⟨_,Tryz.func140,rfl⟩).2 base args H v H' h φ w Vs hb hH ht
end Go.Proofs.Ev
