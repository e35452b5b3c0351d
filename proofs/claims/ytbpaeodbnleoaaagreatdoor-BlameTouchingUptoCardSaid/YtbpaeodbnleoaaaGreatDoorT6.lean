/- Part 6 of the proof that quiltlaw38.BlameTouching returns true: no statement of its own. -/
import Derived.Test.YtbpaeodbnleoaaaGreatDoorT5
set_option linter.all false
namespace Go.Proofs.Ev
section
variable (P:Program) (C:bG) (N base:Nat)
def AW (g:Operand) (ps:Array Tmp) (assign body:Code) (s:Sl) (H:ag) (Q:di):Prop :=
 ∀l,lT N l s→∃n e l' s' H',aV P C n base (.rangeFunc g ps assign body) l H=some (e,l',H')∧lT N l' s'∧Q e s' H'
def je:Code→Sl→ag→di→Prop
 | .skip,s,H,Q=>Q .normal s H
 | .label _,s,H,Q=>Q .normal s H
 | .ret,s,H,Q=>Q .ret s H
 | .exit id,s,H,Q=>Q (.exit id) s H
 | .seq a b,s,H,Q=>je a s H (Ik (je b) Q)
 | .cond x a b,s,H,Q=>m5 (bX s x) (je a s H Q) (je b s H Q)
 | .block id b,s,H,Q=>je b s H (oU id Q)
 | .loop b,s,H,Q=>F0 (je b) s H Q
 | .region _ ops false,s,H,Q=>mK P C N base ops ops.toList s H (Q .normal)
 | .region _ ops true,s,H,Q=>iV P C N base ops 0 ops.toList s H (Q .normal)
 | .rangeFunc g ps assign body,s,H,Q=>AW P C N base g ps assign body s H Q
 | _,_,_,_=>False
end
def kJ (P:Program):Code→Bool
 | .seq a b=>kJ P a&&kJ P b
 | .cond _ a b=>kJ P a&&kJ P b
 | .block _ b=>kJ P b
 | .loop b=>kJ P b
 | .region _ ops true=>wI P ops
 | _=>true
variable {P:Program} {C:bG} {N base:Nat}
theorem sA {ops:Array Oper} {Q Q':Sl→ag→Prop} (hq:∀s H,Q s H→Q' s H):∀{os:List Oper} {i:Nat} {s:Sl} {H:ag},iV P C N base ops i os s H Q→iV P C N base ops i os s H Q'
 | [],_,s,H,h=>hq s H h
 | _::_,_,_,_,h=>⟨h.1,sC h.2 fun _ _ h=>⟨h.1,sA hq h.2⟩⟩
theorem sf {b:Code} (ih:∀{s:Sl} {H:ag} {Q:di},je P C N base b s H Q→∀{l:List AV},lT N l s→∃n e l' s' H',aV P C n base b l H=some (e,l',H')∧lT N l' s'∧Q e s' H') {Q:di} :
 ∀{k:Nat} {s:Sl} {H:ag},qq (je P C N base b) Q k s H→∀{l:List AV},lT N l s→∃n e l' s' H',aV P C n base (.loop b) l H=some (e,l',H')∧lT N l' s'∧Q e s' H'
 | 0,_,_,h,_,_=>h.elim
 | k+1,s,H,h,l,hr=>by
  unfold qq at h
  obtain ⟨n,e,l',s',H',h1,h2,h3⟩:=ih h hr
  cases e with
  | normal =>
   obtain ⟨m,e,l2,s2,H2,h4,h5,h6⟩:=sf ih h3 h2
   refine ⟨n+m+1,e,l2,s2,H2,?_,h5,h6⟩
   rw [mi,gn (Nat.le_add_right n m) h1]
   exact gn (Nat.le_add_left m n) h4
  | exit i=>exact ⟨n+1,.exit i,l',s',H',by rw [mi,h1],h2,h3⟩
  | ret=>exact ⟨n+1,.ret,l',s',H',by rw [mi,h1],h2,h3⟩
theorem fL:∀{c:Code} {s:Sl} {H:ag} {Q:di},kJ P c=true→je P C N base c s H Q→∀{l:List AV},lT N l s→∃n e l' s' H',aV P C n base c l H=some (e,l',H')∧lT N l' s'∧Q e s' H'
 | .skip,s,H,_,hst,h,l,hr=>⟨1,.normal,l,s,H,by simp only [aV],hr,h⟩
 | .label _,s,H,_,hst,h,l,hr=>⟨1,.normal,l,s,H,by simp only [aV],hr,h⟩
 | .ret,s,H,_,hst,h,l,hr=>⟨1,.ret,l,s,H,by simp only [aV],hr,h⟩
 | .exit i,s,H,_,hst,h,l,hr=>⟨1,.exit i,l,s,H,by simp only [aV],hr,h⟩
 | .seq a b,s,H,Q,hst,h,l,hr=>by
  unfold je at h
  simp only [kJ,Bool.and_eq_true] at hst
  obtain ⟨n,e,l',s',H',h1,h2,h3⟩:=fL hst.1 h hr
  cases e with
  | normal =>
   obtain ⟨m,e,l2,s2,H2,h4,h5,h6⟩:=fL hst.2 h3 h2
   refine ⟨n+m+1,e,l2,s2,H2,?_,h5,h6⟩
   simp only [aV]
   rw [gn (Nat.le_add_right n m) h1]
   exact gn (Nat.le_add_left m n) h4
  | exit i=>exact ⟨n+1,.exit i,l',s',H',by simp only [aV];rw [h1],h2,h3⟩
  | ret=>exact ⟨n+1,.ret,l',s',H',by simp only [aV];rw [h1],h2,h3⟩
 | .cond x a b,s,H,Q,hst,h,l,hr=>by
  unfold je m5 at h
  simp only [kJ,Bool.and_eq_true] at hst
  split at h
  ·rename_i hx
   obtain ⟨n,e,l',s',H',h1,h2,h3⟩:=fL hst.1 h hr
   exact ⟨n+1,e,l',s',H',by simp only [aV];rw [hr.val,hx];exact h1,h2,h3⟩
  ·rename_i hx
   obtain ⟨n,e,l',s',H',h1,h2,h3⟩:=fL hst.2 h hr
   exact ⟨n+1,e,l',s',H',by simp only [aV];rw [hr.val,hx];exact h1,h2,h3⟩
  ·exact h.elim
 | .block id b,s,H,Q,hst,h,l,hr=>by
  unfold je at h
  obtain ⟨n,e,l',s',H',h1,h2,h3⟩:=fL (c:=b) hst h hr
  cases e with
  | normal=>exact ⟨n+1,.normal,l',s',H',by simp only [aV];rw [h1],h2,h3⟩
  | ret=>exact ⟨n+1,.ret,l',s',H',by simp only [aV];rw [h1],h2,h3⟩
  | exit i =>
   simp only [oU] at h3
   by_cases hi:i=id
   ·rw [if_pos hi] at h3
    exact ⟨n+1,.normal,l',s',H',by simp only [aV];rw [h1];simp [hi],h2,h3⟩
   ·rw [if_neg hi] at h3
    exact ⟨n+1,.exit i,l',s',H',by simp only [aV];rw [h1];simp [hi],h2,h3⟩
 | .loop b,s,H,Q,hst,h,l,hr=>by
  unfold je at h
  obtain ⟨k,h⟩:=h
  exact sf (fun {s H Q} h {l} hr=>fL (c:=b) hst h hr) h hr
 | .region id ops false,s,H,Q,hst,h,l,hr=>by
  unfold je at h
  obtain ⟨n,l',s',H',h1,h2,h3⟩:=sB h hr
  exact ⟨n+1,.normal,l',s',H',by simp only [aV];rw [h1],h2,h3⟩
 | .region id ops true,s,H,Q,hst,h,l,hr=>by
  unfold je at h
  obtain ⟨n,tr,l',s',H',h1,h2,h3,h4⟩:=Ei hst h l hr
  exact ⟨n+1,.normal,l',s',H',by simp only [aV];rw [h1];simp only;rw [if_pos h2],h3,h4⟩
 | .rangeFunc g ps assign body,s,H,Q,_,h,l,hr=>by unfold je at h;exact h l hr
 | .scope _,_,_,_,_,h,_,_=>h.elim
 | .goto _,_,_,_,_,h,_,_=>h.elim
 | .refuse _,_,_,_,_,h,_,_=>h.elim
theorem gU:∀{c:Code} {s:Sl} {H:ag} {Q Q':di},(∀e s H,Q e s H→Q' e s H)→je P C N base c s H Q→je P C N base c s H Q'
 | .skip,s,H,_,_,hq,h=>hq _ s H h
 | .label _,s,H,_,_,hq,h=>hq _ s H h
 | .ret,s,H,_,_,hq,h=>hq _ s H h
 | .exit i,s,H,_,_,hq,h=>hq _ s H h
 | .seq a b,s,H,Q,Q',hq,h=>by
  unfold je at h ⊢
  refine gU (fun e s H h=>?_) h
  cases e with
  | normal=>exact gU (c:=b) hq h
  | exit i=>exact hq _ _ _ h
  | ret=>exact hq _ _ _ h
 | .cond x a b,s,H,Q,Q',hq,h=>by
  unfold je m5 at h ⊢
  split at h
  ·exact gU hq h
  ·exact gU hq h
  ·exact h.elim
 | .block id b,s,H,Q,Q',hq,h=>by
  unfold je at h ⊢
  refine gU (fun e s H h=>?_) h
  cases e with
  | normal=>exact hq _ _ _ h
  | exit i =>
   simp only [oU] at h ⊢
   by_cases hi:i=id
   ·rw [if_pos hi] at h ⊢;exact hq _ _ _ h
   ·rw [if_neg hi] at h ⊢;exact hq _ _ _ h
  | ret=>exact hq _ _ _ h
 | .loop b,s,H,Q,Q',hq,h=>by
  unfold je at h ⊢
  obtain ⟨k,h⟩:=h
  refine ⟨k,?_⟩
  induction k generalizing s H with
  | zero=>exact h
  | succ k ih =>
   unfold qq at h ⊢
   refine gU (c:=b) (fun e s H h=>?_) h
   cases e with
   | normal=>exact ih _ _ h
   | exit i=>exact hq _ _ _ h
   | ret=>exact hq _ _ _ h
 | .region id ops false,s,H,Q,Q',hq,h=>by unfold je at h ⊢;exact u6 (hq _) h
 | .region id ops true,s,H,Q,Q',hq,h=>by
  unfold je at h ⊢
  exact sA (hq _) h
 | .rangeFunc g ps assign body,s,H,Q,Q',hq,h=>by
  unfold je at h ⊢
  intro l hr
  obtain ⟨n,e,l',s',H',h1,h2,h3⟩:=h l hr
  exact ⟨n,e,l',s',H',h1,h2,hq _ _ _ h3⟩
 | .scope _,_,_,_,_,_,h=>h.elim
 | .goto _,_,_,_,_,_,h=>h.elim
 | .refuse _,_,_,_,_,_,h=>h.elim
theorem EK {b:Code} {Q:di} (I:Sl→ag→Prop) (m:Sl→ag→Nat) {s:Sl} {H:ag} (h0:I s H)
 (hstep:∀s H,I s H→je P C N base b s H fun e s' H'=>match e with | .normal=>I s' H'∧m s' H'<m s H | .exit i=>Q (.exit i) s' H' | .ret=>Q .ret s' H') :
 F0 (je P C N base b) s H Q:=by
 have key:∀(k:Nat) (s:Sl) (H:ag),I s H→m s H<k→qq (je P C N base b) Q k s H:=by
  intro k
  induction k with
  | zero=>intro s H _ h;omega
  | succ k ih =>
   intro s H hi hm
   unfold qq
   refine gU (fun e s' H' h=>?_) (hstep s H hi)
   cases e with
   | normal=>exact ih s' H' h.1 (by have:=h.2;omega)
   | exit i=>exact h
   | ret=>exact h
 exact ⟨m s H+1,key _ _ _ h0 (by omega)⟩
def aG (args:List AV) (N:Nat):Sl:=fun t=>if t<args.length then args.getD t .undef else if t<N then .tup [] else .undef
theorem yC {args:List AV} {N:Nat} (h:args.length≤N):lT N (args++List.replicate (N-args.length) (.tup [])) (aG args N):=by
 refine ⟨by simp;omega,fun t=>?_⟩
 unfold aG
 rw [List.getD_eq_getElem?_getD]
 by_cases h1:t<args.length
 ·rw [if_pos h1,List.getElem?_append_left h1,List.getD_eq_getElem?_getD]
 ·rw [if_neg h1,List.getElem?_append_right (by omega)]
  by_cases h2:t<N
  ·rw [if_pos h2,List.getElem?_replicate,if_pos (by omega)];rfl
  ·rw [if_neg h2,List.getElem?_replicate,if_neg (by omega)];rfl
def eB (P:Program) (H:ag) (s:Sl):List ResultVar→Option (List AV)
 | []=>some []
 | .tmp t::l=>(eB P H s l).map (s t::·)
 | .cell a t::l =>
  match jH P H t (s a),eB P H s l with
  | some v,some vs=>some (v::vs)
  | _,_=>none
theorem lT.results {l:List AV} {s:Sl} (h:lT N l s) {H:ag}:∀rs:List ResultVar,dR P H l rs=eB P H s rs
 | []=>rfl
 | .tmp t::rs=>by unfold dR eB;rw [h.results rs,h.2 t]
 | .cell a t::rs=>by unfold dR eB;rw [h.results rs,h.2 a];rfl
def Fh (P:Program) (rs:List ResultVar) (K:AV→ag→Prop):di:=fun e s H =>
 match e with
 | .exit _=>False
 | _=>match eB P H s rs with | some vs=>K (ja vs) H | none=>False
theorem am {f:FuncId} {fn:Func} {c:Code} {args:List AV} {H:ag} {K:AV→ag→Prop} (hf:P.funcs[f]?=some fn) (hc:fn.body=some c) (hp:C.prim f=none) (hn:args.length≤fn.ntmps) (hst:kJ P c=true)
 (h:je P C fn.ntmps base c (aG args fn.ntmps) H (Fh P fn.results.toList K)):dW P C base f args H K:=by
 obtain ⟨n,e,l',s',H',h1,h2,h3⟩:=fL hst h (yC hn)
 unfold Fh at h3
 have key:∀vs,eB P H' s' fn.results.toList=some vs→(e=.normal∨e=.ret)→cD P C (n+1) base f args H=some (ja vs,H'):=by
  intro vs hv he
  unfold cD
  simp only [hp,hf,hc,h1]
  rcases he with rfl | rfl<;>simp [h2.results,hv]
 cases e with
 | exit i=>exact h3.elim
 | normal =>
  simp only at h3
  split at h3
  ·rename_i vs hv;exact ⟨n+1,_,H',key vs hv (.inl rfl),h3⟩
  ·exact h3.elim
 | ret =>
  simp only at h3
  split at h3
  ·rename_i vs hv;exact ⟨n+1,_,H',key vs hv (.inr rfl),h3⟩
  ·exact h3.elim
theorem bn {f:FuncId} {caps args:List AV} {H:ag} {K:AV→ag→Prop} (hp:C.pure f=false) (hz:C.frz f=false) (h:dW P C base f (args++caps) H K):aD P C base (.fn f caps) args H K:=by
 obtain ⟨n,v,H',h1,h2⟩:=h
 exact ⟨n+1,v,H',by simp only [dp,hp,hz];exact h1,h2⟩
theorem d5 {f:FuncId} {caps args:List AV} {H:ag} {K:AV→ag→Prop} (hp:C.pure f=true)
 (h:dW P C H.length f (args++caps) H fun r H'=>∃r',aJ H' H.length 3 r=some r'∧K r' H):aD P C base (.fn f caps) args H K:=by
 obtain ⟨n,v,H',h1,r',h2,h3⟩:=h
 exact ⟨n+1,r',H,by simp only [dp,hp];rw [h1];simp [h2],h3⟩
end Go.Proofs.Ev
namespace Go.Proofs.Ev
variable {P:Program} {C:bG} {N base:Nat}
def FZ (P:Program) (C:bG) (N base:Nat) (b:Code) (s:Sl) (H:ag) (Q:di):Prop:=F0 (je P C N base b) s H Q
@[simp ↓] theorem PW (s:Sl) (H:ag) (Q:di):je P C N base .skip s H Q=Q .normal s H:=Eq.trans rfl rfl
@[simp ↓] theorem Q8 (s:Sl) (H:ag) (Q:di):je P C N base .ret s H Q=Q .ret s H:=Eq.trans rfl rfl
@[simp ↓] theorem PV (i:Nat) (s:Sl) (H:ag) (Q:di):je P C N base (.exit i) s H Q=Q (.exit i) s H:=Eq.trans rfl rfl
@[simp ↓] theorem Q9 (a b:Code) (s:Sl) (H:ag) (Q:di):je P C N base (.seq a b) s H Q=je P C N base a s H (Ik (je P C N base b) Q):=Eq.trans rfl rfl
@[simp ↓] theorem PT (x:Operand) (a b:Code) (s:Sl) (H:ag) (Q:di):je P C N base (.cond x a b) s H Q=m5 (bX s x) (je P C N base a s H Q) (je P C N base b s H Q):=Eq.trans rfl rfl
@[simp ↓] theorem cq (i:Nat) (b:Code) (s:Sl) (H:ag) (Q:di):je P C N base (.block i b) s H Q=je P C N base b s H (oU i Q):=Eq.trans rfl rfl
@[simp ↓] theorem iW (b:Code) (s:Sl) (H:ag) (Q:di):je P C N base (.loop b) s H Q=FZ P C N base b s H Q:=Eq.trans rfl rfl
@[simp ↓] theorem NR (id:Nat) (ops:Array Oper) (s:Sl) (H:ag) (Q:di):je P C N base (.region id ops false) s H Q=mK P C N base ops ops.toList s H (Q .normal):=Eq.trans rfl rfl
@[simp ↓] theorem PU (id:Nat) (ops:Array Oper) (s:Sl) (H:ag) (Q:di):je P C N base (.region id ops true) s H Q=iV P C N base ops 0 ops.toList s H (Q .normal):=Eq.trans rfl rfl
@[simp ↓] theorem Lr (W:Sl→ag→di→Prop) (Q:di) (s:Sl) (H:ag):Ik W Q .normal s H=W s H Q:=Eq.trans rfl rfl
@[simp ↓] theorem NK (W:Sl→ag→di→Prop) (Q:di) (i:Nat) (s:Sl) (H:ag):Ik W Q (.exit i) s H=Q (.exit i) s H:=Eq.trans rfl rfl
@[simp ↓] theorem OT (W:Sl→ag→di→Prop) (Q:di) (s:Sl) (H:ag):Ik W Q .ret s H=Q .ret s H:=Eq.trans rfl rfl
@[simp ↓] theorem IW (id:Nat) (Q:di) (s:Sl) (H:ag):oU id Q .normal s H=Q .normal s H:=Eq.trans rfl rfl
@[simp ↓] theorem LP (id:Nat) (Q:di) (s:Sl) (H:ag):oU id Q .ret s H=Q .ret s H:=Eq.trans rfl rfl
@[simp ↓] theorem K1 (id i:Nat) (Q:di) (s:Sl) (H:ag):oU id Q (.exit i) s H=if i=id then Q .normal s H else Q (.exit i) s H:=Eq.trans rfl rfl
@[simp ↓] theorem Lq (rs:List ResultVar) (K:AV→ag→Prop) (s:Sl) (H:ag):Fh P rs K .normal s H=match eB P H s rs with | some vs=>K (ja vs) H | none=>False:=Eq.trans rfl rfl
@[simp ↓] theorem OP (rs:List ResultVar) (K:AV→ag→Prop) (s:Sl) (H:ag):Fh P rs K .ret s H=match eB P H s rs with | some vs=>K (ja vs) H | none=>False:=Eq.trans rfl rfl
@[simp] theorem Kp (H:ag) (s:Sl):eB P H s []=some []:=rfl
@[simp] theorem Kq (H:ag) (s:Sl) (t:Nat) (l:List ResultVar):eB P H s (.tmp t::l)=(eB P H s l).map (s t::·):=rfl
@[simp] theorem I1 (H:ag) (s:Sl) (a t:Nat) (l:List ResultVar):eB P H s (.cell a t::l)=match jH P H t (s a),eB P H s l with | some v,some vs=>some (v::vs) | _,_=>none:=rfl
@[simp] theorem NE (v:AV):ja [v]=v:=rfl
@[simp] theorem NF (v w:AV) (l:List AV):ja (v::w::l)=.tup (v::w::l):=rfl
@[simp] theorem My:ja []=.tup []:=rfl
@[simp] theorem LT (A B:Prop):m5 (.bool true) A B=A:=rfl
@[simp] theorem K4 (A B:Prop):m5 (.bool false) A B=B:=rfl
@[simp low] theorem tL (b:Bool) (A B:Prop):m5 (.bool b) A B=((b=true→A)∧(b=false→B)):=by cases b<;>simp
@[simp] theorem Nb (p:Prop) [Decidable p] (A B:Prop):m5 (.bool (decide p)) A B=((p→A)∧(¬p→B)):=by rw [tL];simp
@[simp] theorem Nc (b:Bool) (A B:Prop):m5 (.bool (!b)) A B=m5 (.bool b) B A:=by cases b<;>rfl
@[simp] theorem Na {α:Type} [BEq α] [LawfulBEq α] (x y:α) (A B:Prop):m5 (.bool (x==y)) A B=((x=y→A)∧(¬x=y→B)):=by rw [tL];simp
def Mq (P:Program) (C:bG) (N base:Nat) (ops:Array Oper) (l:List Oper) (d:Option Tmp) (s:Sl) (Q:Sl→ag→Prop):AV→ag→Prop:=fun v H'=>mK P C N base ops l (pw s d v) H' Q
@[simp ↓] theorem OA (ops:Array Oper) (l:List Oper) (d:Option Tmp) (s:Sl) (Q:Sl→ag→Prop) (v:AV) (H':ag):Mq P C N base ops l d s Q v H'=mK P C N base ops l (pw s d v) H' Q:=Eq.trans rfl rfl
def wc (P:Program) (C:bG) (N base:Nat) (ops:Array Oper) (i:Nat) (l:List Oper) (d:Option Tmp) (s:Sl) (H:ag) (Q:Sl→ag→Prop):AV→ag→Prop:=fun v H'=>(ro P ops i=true→H'=H)∧iV P C N base ops (i+1) l (pw s d v) H' Q
@[simp ↓] theorem Nu (ops:Array Oper) (i:Nat) (l:List Oper) (d:Option Tmp) (s:Sl) (H:ag) (Q:Sl→ag→Prop) (v:AV):wc P C N base ops i l d s H Q v H=iV P C N base ops (i+1) l (pw s d v) H Q:=by simp [wc]
theorem aN (ops:Array Oper) (i:Nat) (l:List Oper) (d:Option Tmp) (s:Sl) (H:ag) (Q:Sl→ag→Prop) (v:AV) (H':ag) (h:ro P ops i=false):wc P C N base ops i l d s H Q v H'=iV P C N base ops (i+1) l (pw s d v) H' Q:=by simp [wc,h]
@[simp ↓] theorem NQ (ops:Array Oper) (s:Sl) (H:ag) (Q:Sl→ag→Prop):mK P C N base ops [] s H Q=Q s H:=Eq.trans rfl rfl
@[simp ↓] theorem MY (ops:Array Oper) (d:Option Tmp) (op:Op) (t:TypeId) (pos:String) (af:Array Edge) (l:List Oper) (s:Sl) (H:ag) (Q:Sl→ag→Prop) :
 mK P C N base ops (⟨d,op,t,pos,af,none⟩::l) s H Q=(m9 N d∧dH P C base ⟨d,op,t,pos,af,none⟩ s H (Mq P C N base ops l d s Q)):=Eq.trans rfl rfl
def oe (v:AV) (w:Bool):Option Bool:=match v with | .bool b=>some (b==w) | .undef=>none | _=>some false
def i7 (w:Option Bool) (W:(AV→ag→Prop)→Prop) (H:ag) (K:AV→ag→Prop):Prop:=sy w (K (.tup []) H) (W K)
@[congr] theorem K9 {w w':Option Bool} (W:(AV→ag→Prop)→Prop) (H:ag) (K:AV→ag→Prop) (h:w=w'):i7 w W H K=i7 w' W H K:=by rw [h]
def an (ops:Array Oper) (s:Sl) (g:Nat×Bool):Option Bool:=match (ops[g.1]?).bind (·.dst) with | some d=>oe (s d) g.2 | none=>some false
@[simp ↓] theorem LD (ops:Array Oper) (d:Option Tmp) (op:Op) (t:TypeId) (pos:String) (af:Array Edge) (g:Nat×Bool) (l:List Oper) (s:Sl) (H:ag) (Q:Sl→ag→Prop) :
 mK P C N base ops (⟨d,op,t,pos,af,some g⟩::l) s H Q=(m9 N d∧i7 (an ops s g) (fun K=>dH P C base ⟨d,op,t,pos,af,none⟩ s H K) H (Mq P C N base ops l d s Q)):=Eq.trans rfl rfl
@[simp ↓] theorem MW (ops:Array Oper) (i:Nat) (s:Sl) (H:ag) (Q:Sl→ag→Prop):iV P C N base ops i [] s H Q=Q s H:=Eq.trans rfl rfl
@[simp ↓] theorem LC (ops:Array Oper) (i:Nat) (d:Option Tmp) (op:Op) (t:TypeId) (pos:String) (af:Array Edge) (l:List Oper) (s:Sl) (H:ag) (Q:Sl→ag→Prop) :
 iV P C N base ops i (⟨d,op,t,pos,af,none⟩::l) s H Q=(m9 N d∧dH P C base ⟨d,op,t,pos,af,none⟩ s H (wc P C N base ops i l d s H Q)):=Eq.trans rfl rfl
@[simp ↓] theorem KQ (ops:Array Oper) (i:Nat) (d:Option Tmp) (op:Op) (t:TypeId) (pos:String) (af:Array Edge) (g:Nat×Bool) (l:List Oper) (s:Sl) (H:ag) (Q:Sl→ag→Prop) :
 iV P C N base ops i (⟨d,op,t,pos,af,some g⟩::l) s H Q=(m9 N d∧i7 (an ops s g) (fun K=>dH P C base ⟨d,op,t,pos,af,none⟩ s H K) H (wc P C N base ops i l d s H Q)):=Eq.trans rfl rfl
@[simp] theorem L1 (d:Nat):m9 N (some d)=(d<N):=rfl
@[simp] theorem LZ:m9 N none=True:=rfl
@[simp] theorem NJ (s:Sl) (d:Nat) (v:AV):pw s (some d) v=Lv s d v:=rfl
@[simp] theorem NI (s:Sl) (v:AV):pw s none v=s:=rfl
@[simp] theorem Q7 (s:Sl) (d:Nat) (v:AV):Lv s d v d=v:=if_pos rfl
@[simp] theorem PQ (s:Sl) (d t:Nat) (v:AV):Lv s d v t=if t=d then v else s t:=rfl
@[simp] theorem O8 (s:Sl) (t:Nat):bX s (.tmp t)=s t:=rfl
@[simp] theorem MR (s:Sl) (v:Value):bX s (.const v)=ofValue v:=rfl
@[simp] theorem NN (s:Sl) (f:FuncId):bX s (.func f)=.fn f []:=rfl
@[simp] theorem JT (b:Bool):ofValue (.bool b)=.bool b:=rfl
@[simp] theorem Li (k:IntKind) (n:Int):ofValue (.int k n)=.int k n:=rfl
@[simp] theorem Lj (b:ByteArray):ofValue (.string b)=.str b.data.toList:=rfl
@[simp] theorem JW:ofValue (.pointer none)=.nilp:=rfl
@[simp] theorem JX:ofValue (.slice none 0 0)=.nils:=rfl
@[simp] theorem JV:ofValue (.map none)=.nilm:=rfl
@[simp] theorem JU:ofValue .nilFunc=.nilf:=rfl
@[simp] theorem MT (K A:Prop):sy (some true) K A=A:=rfl
@[simp] theorem Ly (K A:Prop):sy (some false) K A=K:=rfl
@[simp] theorem Nz (v:AV) (H:ag) (K:AV→ag→Prop):(match (some (v,H):Option (AV×ag)) with | some (v,H')=>K v H' | none=>False)=K v H:=rfl
section ops
variable (d:Option Tmp) (ty:TypeId) (pos:String) (af:Array Edge) (g:Option (Nat×Bool)) (s:Sl) (H:ag) (K:AV→ag→Prop)
def qi (r:Option (AV×ag)) (K:AV→ag→Prop):Prop:=match r with | some (v,H')=>K v H' | none=>False
@[simp] theorem Et (v:AV) (H:ag) (K:AV→ag→Prop):qi (some (v,H)) K=K v H:=rfl
def gN (r:Option AV) (H:ag) (K:AV→ag→Prop):Prop:=match r with | some v=>K v H | none=>False
@[simp] theorem Nm (v:AV) (H:ag) (K:AV→ag→Prop):gN (some v) H K=K v H:=rfl
def vj (r:Option ag) (K:AV→ag→Prop):Prop:=match r with | some H=>K (.tup []) H | none=>False
@[simp] theorem Nl (H:ag) (K:AV→ag→Prop):vj (some H) K=K (.tup []) H:=rfl
theorem eM (r:Option AV):qi (mz H r) K=gN r H K:=by cases r<;>rfl
theorem nY (r:Option ag):qi (xS r) K=vj r K:=by cases r<;>rfl
@[simp] theorem Oa (c:Prop) [Decidable c] (a:AV):gN (if c then some a else none) H K=(c∧K a H):=by by_cases h:c<;>simp [h,gN]
@[simp] theorem N9 (c:Prop) [Decidable c] (a:ag):vj (if c then some a else none) K=(c∧K (.tup []) a):=by by_cases h:c<;>simp [h,vj]
@[simp] theorem Ob (c:Prop) [Decidable c] (a:AV×ag):qi (if c then some a else none) K=(c∧K a.1 a.2):=by by_cases h:c<;>simp [h,qi]
@[congr] theorem L9 {r r':Option AV} (H:ag) (K:AV→ag→Prop) (h:r=r'):gN r H K=gN r' H K:=by rw [h]
@[congr] theorem Ma {r r':Option (AV×ag)} (K:AV→ag→Prop) (h:r=r'):qi r K=qi r' K:=by rw [h]
@[congr] theorem L8 {r r':Option ag} (K:AV→ag→Prop) (h:r=r'):vj r K=vj r' K:=by rw [h]
theorem yk {o:Oper} (h:∀f args ats,o.op≠.call { callee:=.value f,args,argTypes:=ats }):dH P C base o s H K=qi (wm P C base H (bX s) o) K:=by
 unfold dH
 split
 ·rename_i f args ats e;exact absurd e (h f args ats)
 ·rfl
@[simp ↓] theorem PN (x:Operand):dH P C base ⟨d,.move x,ty,pos,af,g⟩ s H K=K (bX s x) H:=Eq.trans rfl rfl
@[simp ↓] theorem NB (x:Operand):dH P C base ⟨d,.assign x,ty,pos,af,g⟩ s H K=K (bX s x) H:=Eq.trans rfl rfl
def Ds (c a b:AV):Option AV:=match c with | .bool t=>some (if t then a else b) | _=>none
@[simp ↓] theorem J6 (c a b:Operand):dH P C base ⟨d,.pick c a b,ty,pos,af,g⟩ s H K=gN (Ds (bX s c) (bX s a) (bX s b)) H K:=by
 rw [yk (h:=by intro f args ats e;cases e)];simp only [wm,Ds];cases bX s c<;>rfl
@[simp ↓] theorem OH (t:TypeId):dH P C base ⟨d,.alloc t,ty,pos,af,g⟩ s H K=qi (match aQ P t with | some z=>if some z.cells.length=bF P t then some (iK H (dO P t) z) else none | none=>none) K:=Eq.trans rfl rfl
@[simp ↓] theorem QU (t:TypeId) (x:Operand):dH P C base ⟨d,.box t x,ty,pos,af,g⟩ s H K=qi (if (bX s x).cells.all AV.leaf then some (fq H (bX s x)) else none) K:=Eq.trans rfl rfl
@[simp ↓] theorem Hu (t:TypeId) (ps:Array (Nat×Operand)):dH P C base ⟨d,.build t ps,ty,pos,af,g⟩ s H K=gN (ed P t (ps.toList.map fun x=>(x.1,bX s x.2))) H K:=by
 rw [←eM];rfl
@[simp ↓] theorem IZ (t:TypeId) (n:Nat) (ps:Array (Nat×Operand)):dH P C base ⟨d,.buildSlice t n ps,ty,pos,af,g⟩ s H K=gN (aj P t n (ps.toList.map fun x=>(x.1,bX s x.2))) H K:=by
 rw [←eM];rfl
@[simp ↓] theorem JZ (t:TypeId) (a:Operand):dH P C base ⟨d,.load t a,ty,pos,af,g⟩ s H K=gN (jH P H t (bX s a)) H K:=by rw [←eM];rfl
@[simp ↓] theorem OK (t:TypeId) (a x:Operand):dH P C base ⟨d,.store t a x,ty,pos,af,g⟩ s H K=vj (ao P base H t (bX s a) (bX s x)) K:=by rw [←nY];rfl
def Ho (v:AV) (H:ag) (K:AV→ag→Prop):Prop:=match v with | .ptr .. | .eptr _ | .fn ..=>K v H | _=>False
@[simp] theorem OF (b g e i f:Nat):Ho (.ptr b g e i f) H K=K (.ptr b g e i f) H:=rfl
@[simp] theorem Ny (c:List AV):Ho (.eptr c) H K=K (.eptr c) H:=rfl
@[simp] theorem PK (f:FuncId) (c:List AV):Ho (.fn f c) H K=K (.fn f c) H:=rfl
@[simp ↓] theorem Ln (x:Operand):dH P C base ⟨d,.nilCheck x,ty,pos,af,g⟩ s H K=Ho (bX s x) H K:=by
 rw [yk (h:=by intro f args ats e;cases e)];simp only [wm,Ho];cases bX s x<;>rfl
@[simp ↓] theorem Ms (op:BinOp) (t u:TypeId) (x y:Operand):dH P C base ⟨d,.binOp op t x y u,ty,pos,af,g⟩ s H K=gN (bU P C op t (bX s x) (bX s y)) H K:=by rw [←eM];rfl
@[simp ↓] theorem OL (op:UnOp) (t:TypeId) (x:Operand):dH P C base ⟨d,.unOp op t x,ty,pos,af,g⟩ s H K=gN (Lu op (bX s x)) H K:=by rw [←eM];rfl
@[simp ↓] theorem Mt (a b:TypeId) (x:Operand):dH P C base ⟨d,.convert a b x,ty,pos,af,g⟩ s H K=qi (bi P H a b (bX s x).denil) K:=Eq.trans rfl rfl
@[simp ↓] theorem Lk (f:FuncId) (caps:Array Operand):dH P C base ⟨d,.makeFunc (.func f) #[] caps,ty,pos,af,g⟩ s H K=K (.fn f (caps.toList.map (bX s))) H:=Eq.trans rfl rfl
@[simp ↓] theorem Mw (t:TypeId):dH P C base ⟨d,.makeMap t none,ty,pos,af,g⟩ s H K=K (.map H.length) (H++[.map []]):=Eq.trans rfl rfl
@[simp ↓] theorem OJ (t:TypeId) (x:Operand) (lo hi mx:Option Operand):dH P C base ⟨d,.slice t x lo hi mx,ty,pos,af,g⟩ s H K=gN (cX P t (bX s x).denil (lo.map (bX s)) (hi.map (bX s)) (mx.map (bX s))) H K:=by rw [←eM];rfl
@[simp ↓] theorem xE (t:TypeId) (x:Operand) (f:Nat):dH P C base ⟨d,.fieldAddr t x f,ty,pos,af,g⟩ s H K=gN (bD P t (bX s x) f) H K:=by rw [←eM];rfl
@[simp ↓] theorem xF (t:TypeId) (x i:Operand):dH P C base ⟨d,.indexAddr t x i,ty,pos,af,g⟩ s H K=gN (aY P t (bX s x) (bX s i)) H K:=by rw [←eM];rfl
@[simp ↓] theorem Hv (t:TypeId) (x i:Operand):dH P C base ⟨d,.index t x i,ty,pos,af,g⟩ s H K=gN (lf P t (bX s x).denil (bX s i)) H K:=by rw [←eM];rfl
@[simp ↓] theorem E3 (t:TypeId) (m k:Operand) (ok:Bool):dH P C base ⟨d,.lookup t m k ok,ty,pos,af,g⟩ s H K=gN (cu P C H t (bX s m) (bX s k) ok) H K:=by rw [←eM];rfl
@[simp ↓] theorem J5 (t:TypeId) (m k x:Operand):dH P C base ⟨d,.mapUpdate t m k x,ty,pos,af,g⟩ s H K=vj (dB P C base H t (bX s m) (bX s k) (bX s x)) K:=by rw [←nY];rfl
@[simp ↓] theorem NC (t:TypeId) (m k x:Operand):dH P C base ⟨d,.insert t m k x,ty,pos,af,g⟩ s H K=vj (dB P C base H t (bX s m) (bX s k) (bX s x)) K:=by rw [←nY];rfl
def tU (v:AV) (i:Nat) (H:ag) (K:AV→ag→Prop):Prop:=match v with | .tup vs=>gN (vs[i]?) H K | _=>False
@[simp] theorem Jv (vs:List AV) (i:Nat):tU (.tup vs) i H K=gN (vs[i]?) H K:=rfl
@[simp ↓] theorem Mu (x:Operand) (i:Nat):dH P C base ⟨d,.extract x i,ty,pos,af,g⟩ s H K=tU (bX s x) i H K:=by
 rw [yk (h:=by intro f args ats e;cases e)];simp only [wm,tU];cases bX s x<;>first | rfl | (simp only [eM])
@[simp ↓] theorem Mv (x:Operand) (t:TypeId):dH P C base ⟨d,.call ⟨.builtin .len,#[x],#[t]⟩,ty,pos,af,g⟩ s H K=gN (fc P H t (bX s x).denil) H K:=by rw [←eM];rfl
@[simp ↓] theorem OI (x:Operand) (t:TypeId):dH P C base ⟨d,.call ⟨.builtin .clear,#[x],#[t]⟩,ty,pos,af,g⟩ s H K=qi (xS (mf P base H t (bX s x).denil)) K:=Eq.trans rfl rfl
@[simp ↓] theorem NA (x y:Operand) (ts:Array TypeId):dH P C base ⟨d,.call ⟨.builtin .append,#[x,y],ts⟩,ty,pos,af,g⟩ s H K=qi (bA P base H ts (bX s x).denil (bX s y).denil) K:=Eq.trans rfl rfl
@[simp ↓] theorem PM (f:Operand) (args:Array Operand) (ts:Array TypeId):dH P C base ⟨d,.call ⟨.value f,args,ts⟩,ty,pos,af,g⟩ s H K=aD P C base (bX s f) (args.toList.map (bX s)) H K:=Eq.trans rfl rfl
def ug (c:Bool) (W:(AV→ag→Prop)→Prop) (H:ag) (K:AV→ag→Prop):Prop:=i7 (some c) W H K
@[simp] theorem Me (c:Bool) (W:(AV→ag→Prop)→Prop):i7 (some c) W H K=ug c W H K:=rfl
@[congr] theorem JD {c c':Bool} {W W':(AV→ag→Prop)→Prop} (H:ag) (K:AV→ag→Prop) (h:c=c') (hW:c'=true→∀K,W K=W' K):ug c W H K=ug c' W' H K:=by
 subst h
 cases c with
 | false=>rfl
 | true=>exact hW rfl K
@[simp] theorem JE (W:(AV→ag→Prop)→Prop):ug false W H K=K (.tup []) H:=Eq.trans rfl rfl
def rj (w:Option Bool) (r:Option AV):Option AV:=match w with | some true=>r | some false=>some (.tup []) | none=>none
def FU (p:Bool) (a b:AV):AV:=match p with | true=>a | false=>b
@[congr] theorem NG {p q:Bool} {a a' b b':AV} (h:p=q) (h1:q=true→a=a') (h2:q=false→b=b'):FU p a b=FU q a' b':=by
 subst h;cases p<;>simp [FU,h1,h2]
@[simp] theorem OO (a b:AV):FU true a b=a:=Eq.trans rfl rfl
@[simp] theorem NH (a b:AV):FU false a b=b:=Eq.trans rfl rfl
@[simp] theorem ON (p:Bool) (a:AV):FU p a a=a:=by cases p<;>rfl
@[simp] theorem PP (p a:Bool):FU p (.bool a) (.bool false)=.bool (p&&a):=by cases p<;>cases a<;>rfl
@[simp] theorem QV (p a:Bool):FU p (.bool true) (.bool a)=.bool (p||a):=by cases p<;>cases a<;>rfl
def Mb (p:Bool) (r:Option AV):Option AV:=match p with | true=>r | false=>some (.tup [])
@[congr] theorem Nn {p q:Bool} {r r':Option AV} (h:p=q) (h1:q=true→r=r'):Mb p r=Mb q r':=by
 subst h;cases p<;>simp [Mb,h1]
@[simp] theorem Od (r:Option AV):Mb true r=r:=Eq.trans rfl rfl
@[simp] theorem No (r:Option AV):Mb false r=some (.tup []):=Eq.trans rfl rfl
@[simp] theorem Oc (p:Bool) (v:AV):Mb p (some v)=some (FU p v (.tup [])):=by cases p<;>rfl
@[simp] theorem Nt (c:Bool) (r:Option AV):rj (some c) r=Mb c r:=by cases c<;>rfl
@[simp] theorem Mz (t:Bool) (a b:AV):Ds (.bool t) a b=some (FU t a b):=by cases t<;>rfl
@[simp] theorem Md (c:Bool) (v:AV):ug c (fun K=>K v H) H K=K (FU c v (.tup [])) H:=by cases c<;>rfl
theorem ej (w:Option Bool) (r:Option AV):i7 w (fun K=>gN r H K) H K=gN (rj w r) H K:=by
 rcases w with _ | _ | _<;>rfl
@[simp ↓] theorem Of (w:Option Bool) (x:Operand):i7 w (fun K=>dH P C base ⟨d,.move x,ty,pos,af,g⟩ s H K) H K=gN (rj w (some (bX s x))) H K:=by rw [←ej];rfl
@[simp ↓] theorem Og (w:Option Bool) (c a b:Operand):i7 w (fun K=>dH P C base ⟨d,.pick c a b,ty,pos,af,g⟩ s H K) H K=gN (rj w (Ds (bX s c) (bX s a) (bX s b))) H K:=by rw [←ej];congr 1;funext K;rw [J6]
@[simp ↓] theorem PE (w:Option Bool) (op:BinOp) (t u:TypeId) (x y:Operand):i7 w (fun K=>dH P C base ⟨d,.binOp op t x y u,ty,pos,af,g⟩ s H K) H K=gN (rj w (bU P C op t (bX s x) (bX s y))) H K:=by rw [←ej];congr 1;funext K;rw [Ms]
@[simp ↓] theorem QG (w:Option Bool) (op:UnOp) (t:TypeId) (x:Operand):i7 w (fun K=>dH P C base ⟨d,.unOp op t x,ty,pos,af,g⟩ s H K) H K=gN (rj w (Lu op (bX s x))) H K:=by rw [←ej];congr 1;funext K;rw [OL]
@[simp ↓] theorem Oe (w:Option Bool) (t:TypeId) (x:Operand):i7 w (fun K=>dH P C base ⟨d,.load t x,ty,pos,af,g⟩ s H K) H K=gN (rj w (jH P H t (bX s x))) H K:=by rw [←ej];congr 1;funext K;rw [JZ]
@[simp ↓] theorem Nq (w:Option Bool) (t:TypeId) (x:Operand) (f:Nat):i7 w (fun K=>dH P C base ⟨d,.fieldAddr t x f,ty,pos,af,g⟩ s H K) H K=gN (rj w (bD P t (bX s x) f)) H K:=by rw [←ej];congr 1;funext K;rw [xE]
@[simp ↓] theorem Nr (w:Option Bool) (t:TypeId) (x i:Operand):i7 w (fun K=>dH P C base ⟨d,.indexAddr t x i,ty,pos,af,g⟩ s H K) H K=gN (rj w (aY P t (bX s x) (bX s i))) H K:=by rw [←ej];congr 1;funext K;rw [xF]
@[simp ↓] theorem Ns (w:Option Bool) (t:TypeId) (x i:Operand):i7 w (fun K=>dH P C base ⟨d,.index t x i,ty,pos,af,g⟩ s H K) H K=gN (rj w (lf P t (bX s x).denil (bX s i))) H K:=by rw [←ej];congr 1;funext K;rw [Hv]
@[simp ↓] theorem Np (w:Option Bool) (t:TypeId) (ps:Array (Nat×Operand)):i7 w (fun K=>dH P C base ⟨d,.build t ps,ty,pos,af,g⟩ s H K) H K=gN (rj w (ed P t (ps.toList.map fun x=>(x.1,bX s x.2)))) H K:=by rw [←ej];congr 1;funext K;rw [Hu]
@[simp ↓] theorem Mc (w:Option Bool) (t:TypeId) (m k:Operand) (ok:Bool):i7 w (fun K=>dH P C base ⟨d,.lookup t m k ok,ty,pos,af,g⟩ s H K) H K=gN (rj w (cu P C H t (bX s m) (bX s k) ok)) H K:=by rw [←ej];congr 1;funext K;rw [E3]
@[simp ↓] theorem PF (w:Option Bool) (x:Operand) (t:TypeId):i7 w (fun K=>dH P C base ⟨d,.call ⟨.builtin .len,#[x],#[t]⟩,ty,pos,af,g⟩ s H K) H K=gN (rj w (fc P H t (bX s x).denil)) H K:=by rw [←ej];congr 1;funext K;rw [Mv]
end ops
@[simp] theorem Nf (c:List AV):AV.denil (.agg c)=.agg c:=rfl
@[simp] theorem Nk (c:List UInt8):AV.denil (.str c)=.str c:=rfl
@[simp] theorem rc (c:List (List AV)) (e:Bool):AV.denil (.lst c e)=.lst c e:=rfl
@[simp] theorem Nh (k:IntKind) (n:Int):AV.denil (.int k n)=.int k n:=rfl
@[simp] theorem LX:AV.denil .nils=.lst [] true:=rfl
@[simp] theorem LW:AV.denil .nilm=.nilm:=rfl
@[simp] theorem Ni (b:Nat):AV.denil (.map b)=.map b:=rfl
@[simp] theorem N4 (b g e l n:Nat):AV.denil (.sl b g e l n)=.sl b g e l n:=rfl
@[simp] theorem Ng (b g e i l n:Nat):AV.denil (.asl b g e i l n)=.asl b g e i l n:=rfl
@[simp] theorem M3 (c:List AV):AV.cells (.agg c)=c:=rfl
@[simp] theorem M4 (k:IntKind) (n:Int):AV.cells (.int k n)=[.int k n]:=rfl
@[simp] theorem M8 (c:List UInt8):AV.cells (.str c)=[.str c]:=rfl
@[simp] theorem LQ (b:Bool):AV.cells (.bool b)=[.bool b]:=rfl
@[simp] theorem M5 (c:List (List AV)) (e:Bool):AV.cells (.lst c e)=[.lst c e]:=rfl
@[simp] theorem N0 (b g e l n:Nat):AV.cells (.sl b g e l n)=[.sl b g e l n]:=rfl
@[simp] theorem M7 (b g e l n:Nat):AV.cells (.ptr b g e l n)=[.ptr b g e l n]:=rfl
@[simp] theorem LS:AV.cells .nils=[.nils]:=rfl
@[simp] theorem LR:AV.cells .nilp=[.nilp]:=rfl
@[simp] theorem M6 (b:Nat):AV.cells (.map b)=[.map b]:=rfl
@[simp] theorem NZ (f:FuncId) (c:List AV):AV.cells (.fn f c)=[.fn f c]:=rfl
@[simp] theorem np (k:IntKind) (n:Int):AV.leaf (.int k n)=true:=rfl
@[simp] theorem nq (c:List UInt8):AV.leaf (.str c)=true:=rfl
@[simp] theorem lG (b:Bool):AV.leaf (.bool b)=true:=rfl
@[simp] theorem OB (c:List (List AV)) (e:Bool):AV.leaf (.lst c e)=true:=rfl
@[simp] theorem PJ (b g e l n:Nat):AV.leaf (.sl b g e l n)=true:=rfl
@[simp] theorem OD (b g e l n:Nat):AV.leaf (.ptr b g e l n)=true:=rfl
@[simp] theorem Nw:AV.leaf .nils=true:=rfl
@[simp] theorem Nv:AV.leaf .nilp=true:=rfl
@[simp] theorem OC (b:Nat):AV.leaf (.map b)=true:=rfl
@[simp] theorem PI (f:FuncId) (c:List AV):AV.leaf (.fn f c)=true:=rfl
@[simp] theorem M2 (H:ag) (g:Nat) (v:AV):iK H g v=(.ptr H.length g v.cells.length 0 0,H++[.rows v.cells.length g [v.cells]]):=rfl
@[simp] theorem M0 (H:ag) (v:AV):fq H v=(.ptr H.length 0 v.cells.length 0 0,H++[.rows v.cells.length 0 [v.cells]]):=rfl
@[simp] theorem LL (b g e i f n:Nat):bp (.ptr b g e i f) n=some (.ptr b g e i (f+n)):=Eq.trans rfl rfl
@[simp] theorem KX (c:List AV) (n:Nat):bp (.eptr c) n=if n≤c.length then some (.eptr (c.drop n)) else none:=Eq.trans rfl rfl
@[simp] theorem KN (b w:Bool):oe (.bool b) w=some (b==w):=rfl
@[simp] theorem LA (l:List AV) (w:Bool):oe (.tup l) w=some false:=rfl
def Sj (p:Bool) (a b:Option Bool):Option Bool:=match p with | true=>a | false=>b
@[simp] theorem PL (p a:Bool):Sj p (some a) (some false)=some (p&&a):=by cases p<;>cases a<;>rfl
@[simp] theorem Lz (c:Bool) (a b:AV) (w:Bool):oe (FU c a b) w=Sj c (oe a w) (oe b w):=by cases c<;>rfl
@[simp] theorem bt (H L:ag) (k:Nat):(H++L)[H.length+k]?=L[k]?:=by rw [List.getElem?_append_right (by omega)];congr 1;omega
@[simp] theorem tg (H L:ag):(H++L)[H.length]?=L[0]?:=bt H L 0
@[simp] theorem pR (H L:ag) (k:Nat) (v:bQ):(H++L).set (H.length+k) v=H++L.set k v:=by
 have h:=List.set_append_right (s:=H) (t:=L) (H.length+k) v (Nat.le_add_right _ _)
 rw [Nat.add_sub_cancel_left] at h
 exact h
theorem cn {b:Code} {Q:di} (I:Sl→ag→Prop) (m:Sl→ag→Nat) {s:Sl} {H:ag} (h0:I s H)
 (hstep:∀s H,I s H→je P C N base b s H fun e s' H'=>match e with | .normal=>I s' H'∧m s' H'<m s H | .exit i=>Q (.exit i) s' H' | .ret=>Q .ret s' H') :
 FZ P C N base b s H Q:=EK I m h0 hstep
def Bn (M:Sl→ag→Prop) (Q:di):di:=fun e s H=>match e with | .normal=>M s H | .exit i=>Q (.exit i) s H | .ret=>Q .ret s H
@[simp ↓] theorem K5 (M:Sl→ag→Prop) (Q:di) (s:Sl) (H:ag):Bn M Q .normal s H=M s H:=Eq.trans rfl rfl
@[simp ↓] theorem Nd (M:Sl→ag→Prop) (Q:di) (i:Nat) (s:Sl) (H:ag):Bn M Q (.exit i) s H=Q (.exit i) s H:=Eq.trans rfl rfl
@[simp ↓] theorem N2 (M:Sl→ag→Prop) (Q:di) (s:Sl) (H:ag):Bn M Q .ret s H=Q .ret s H:=Eq.trans rfl rfl
theorem cut {a b:Code} (M:Sl→ag→Prop) {s:Sl} {H:ag} {Q:di} (h1:je P C N base a s H (Bn M Q)) (h2:∀s H,M s H→je P C N base b s H Q):je P C N base (.seq a b) s H Q:=by
 refine gU (c:=a) (fun e s' H' h=>?_) h1
 cases e with
 | normal=>exact h2 s' H' h
 | exit i=>exact h
 | ret=>exact h
end Go.Proofs.Ev
namespace Go.Proofs.Ev
variable {P:Program} {C:bG} {N base:Nat}
def cE (P:Program) (C:bG) (f:FuncId) (caps args:List AV) (v:AV):Prop:=∀base H,∃n,dp P C n base (.fn f caps) args H=some (v,H)
theorem cE.eq {f:FuncId} {caps args:List AV} {v:AV} (h:cE P C f caps args v) (base:Nat) (H:ag) (K:AV→ag→Prop):aD P C base (.fn f caps) args H K=K v H:=by
 obtain ⟨n,hn⟩:=h base H
 apply propext
 constructor
 ·rintro ⟨m,v',H',h1,h2⟩
  have e1:=jg (Nat.le_max_left n m) hn
  have e2:=jg (Nat.le_max_right n m) h1
  rw [e1] at e2
  simp only [Option.some.injEq,Prod.mk.injEq] at e2
  obtain ⟨rfl,rfl⟩:=e2
  exact h2
 ·intro h2;exact ⟨n,v,H,hn,h2⟩
theorem aB {f:FuncId} {caps args:List AV} {v:AV} (hp:C.pure f=true)
 (h:∀H:ag,dW P C H.length f (args++caps) H fun r H'=>aJ H' H.length 3 r=some v):cE P C f caps args v:=by
 intro base H
 obtain ⟨n,r,H',h1,h2⟩:=h H
 exact ⟨n+1,by simp only [dp,hp];rw [h1];simp [h2]⟩
theorem Kr {f:FuncId} {caps args:List AV} {A:AV→Prop} (hp:C.pure f=true)
 (h:∀H:ag,dW P C H.length f (args++caps) H fun r H'=>∃v,aJ H' H.length 3 r=some v∧A v):∀base H,∃v,(∃n,dp P C n base (.fn f caps) args H=some (v,H))∧A v:=by
 intro base H
 obtain ⟨n,r,H',h1,v,h2,h3⟩:=h H
 exact ⟨v,⟨n+1,by simp only [dp,hp];rw [h1];simp [h2]⟩,h3⟩
def sD (P:Program) (C:bG) (f:FuncId) (aS:List AV) (v:AV):Prop:=C.pure f=false∧C.frz f=true∧v.flat=true∧∃n H',cD P C n 0 f aS []=some (v,H')
theorem Ku {f:FuncId} {aS:List AV} {v:AV} (hp:C.pure f=false) (hz:C.frz f=true) (hv:v.flat=true) (h:dW P C 0 f aS [] fun r _=>r=v):sD P C f aS v:=by
 obtain ⟨n,r,H',h1,rfl⟩:=h
 exact ⟨hp,hz,hv,n,H',h1⟩
theorem lN {f:FuncId} {aS:List AV} {v:AV} (hp:C.pure f=false) (hz:C.frz f=true) (hv:v.flat=true) (h:∀H:ag,dW P C H.length f aS H fun r _=>r=v):sD P C f aS v:=Ku hp hz hv (h [])
theorem sD.eq {f:FuncId} {aS caps args:List AV} {v:AV} (h:sD P C f aS v) (base:Nat) (H:ag) (ha:(args++caps).mapM (aJ H 0 6)=some aS) (K:AV→ag→Prop):aD P C base (.fn f caps) args H K=K v H:=by
 obtain ⟨hp,hz,hv,n,H1,hn⟩:=h
 have hc:dp P C (n+1) base (.fn f caps) args H=some (v,H):=by simp only [dp,hp,hz,ha];rw [hn];simp [hv]
 apply propext
 constructor
 ·rintro ⟨m,v',H',h1,h2⟩
  have e1:=jg (Nat.le_max_left (n+1) m) hc
  have e2:=jg (Nat.le_max_right (n+1) m) h1
  rw [e1] at e2
  simp only [Option.some.injEq,Prod.mk.injEq] at e2
  obtain ⟨rfl,rfl⟩:=e2
  exact h2
 ·intro h2;exact ⟨n+1,v,H,hc,h2⟩
theorem c9 {H:ag} {k d:Nat}:∀{l:List AV},AV.closeds l=true→l.mapM (aJ H k d)=some l
 | [],_=>rfl
 | v::l,h=>by
  simp only [AV.closeds,Bool.and_eq_true] at h
  have h1:aJ H k d v=some v:=by cases d<;>simp [aJ,h.1]
  rw [List.mapM_cons,h1,c9 h.2];rfl
theorem sD.ret {f:FuncId} {args:List AV} {v:AV} (h:sD P C f args v) (ha:AV.closeds args=true):cE P C f [] args v:=by
 intro base H
 obtain ⟨hp,hz,hv,n,H1,hn⟩:=h
 exact ⟨n+1,by simp only [dp,hp,hz,List.append_nil,c9 ha];rw [hn];simp [hv]⟩
@[simp] theorem L6 (H:ag) (k d:Nat) (i:IntKind) (n:Int):aJ H k d (.int i n)=some (.int i n):=by cases d<;>simp [aJ,AV.closed]
@[simp] theorem jz (H:ag) (k d:Nat) (b:Bool):aJ H k d (.bool b)=some (.bool b):=by cases d<;>simp [aJ,AV.closed]
@[simp] theorem kl (H:ag) (k d:Nat) (b:List UInt8):aJ H k d (.str b)=some (.str b):=by cases d<;>simp [aJ,AV.closed]
@[simp] theorem K7 (H:ag) (k d:Nat):aJ H k d .nils=some .nils:=by cases d<;>simp [aJ,AV.closed]
theorem aq {H:ag} {k d:Nat} {v:AV} (h:v.closed=true):aJ H k d v=some v:=by cases d<;>simp [aJ,h]
theorem Bs {H:ag} {k d:Nat} {vs ws:List AV} (h:vs.mapM (aJ H k d)=some ws):aJ H k (d+1) (.tup vs)=some (.tup ws):=by
 unfold aJ
 by_cases hc:AV.closeds vs=true
 ·rw [if_pos (by simpa [AV.closed] using hc)]
  rw [c9 hc] at h;cases h;rfl
 ·rw [if_neg (by simpa [AV.closed] using hc)];simp [h]
theorem ig {H:ag} {k d:Nat} {vs ws:List AV} (h:vs.mapM (aJ H k d)=some ws):aJ H k (d+1) (.agg vs)=some (.agg ws):=by
 unfold aJ
 by_cases hc:AV.closeds vs=true
 ·rw [if_pos (by simpa [AV.closed] using hc)]
  rw [c9 hc] at h;cases h;rfl
 ·rw [if_neg (by simpa [AV.closed] using hc)];simp [h]
theorem bN {H:ag} {k d:Nat} {a b x y:AV} (ha:aJ H k d a=some x) (hb:aJ H k d b=some y):aJ H k (d+1) (.tup [a,b])=some (.tup [x,y]):=Bs (by simp [ha,hb])
attribute [simp] gG ii
def ax (H:ag) (b g e i:Nat):Option (List AV) :=
 match H[b]? with
 | some (.rows e' g' rs)=>if g=g'∧e=e' then rs[i]? else none
 | _=>none
@[simp] theorem ul (H:ag) (t:TypeId) (b g e i f:Nat):jH P H t (.ptr b g e i f)=(ax H b g e i).bind fun row=>gG P t (row.drop f):=by
 simp only [jH,me,ax]
 cases H[b]? with
 | none=>rfl
 | some x =>
  cases x with
  | rows e' g' rs =>
   by_cases h:g=g'∧e=e'
   ·simp only [if_pos h];cases rs[i]?<;>rfl
   ·simp only [if_neg h];rfl
  | _=>rfl
@[simp] theorem Nx (H:ag) (t:TypeId) (c:List AV):jH P H t (.eptr c)=gG P t c:=by simp only [jH,me,Option.bind_some]
theorem eL {H:ag} {b g e i:Nat} {rs:List (List AV)} (h:H[b]?=some (.rows e g rs)):ax H b g e i=rs[i]?:=by simp [ax,h]
@[simp] theorem tl (H L:ag) (g e i k:Nat):ax (H++L) (H.length+k) g e i=ax L k g e i:=by simp only [ax,bt]
@[simp] theorem KY (H L:ag) (g e i:Nat):ax (H++L) H.length g e i=ax L 0 g e i:=tl H L g e i 0
@[simp] theorem K0 (g e i:Nat) (rs:List (List AV)) (L:ag):ax (.rows e g rs::L) 0 g e i=rs[i]?:=by simp [ax]
@[simp] theorem KZ (g e i k:Nat) (b:bQ) (L:ag):ax (b::L) (k+1) g e i=ax L k g e i:=by simp [ax]
section bin
variable (t:TypeId) (k:IntKind) (a b:Int) (x y:List UInt8) (p q:Bool)
@[simp] theorem Je:bU P C .add t (.int k a) (.int k b)=some (.int k (k.wrap (a+b))):=by simp [bU]
@[simp] theorem Pq:bU P C .sub t (.int k a) (.int k b)=some (.int k (k.wrap (a-b))):=by simp [bU]
@[simp] theorem Po:bU P C .mul t (.int k a) (.int k b)=some (.int k (k.wrap (a*b))):=by simp [bU]
@[simp] theorem Pi:bU P C .eql t (.int k a) (.int k b)=some (.bool (a==b)):=by simp [bU]
@[simp] theorem Pp:bU P C .neq t (.int k a) (.int k b)=some (.bool (a != b)):=by simp [bU]
@[simp] theorem Pn:bU P C .lss t (.int k a) (.int k b)=some (.bool (decide (a<b))):=by simp [bU]
@[simp] theorem Pm:bU P C .leq t (.int k a) (.int k b)=some (.bool (decide (a≤b))):=by simp [bU]
@[simp] theorem Pk:bU P C .gtr t (.int k a) (.int k b)=some (.bool (decide (a > b))):=by simp [bU]
@[simp] theorem Pj:bU P C .geq t (.int k a) (.int k b)=some (.bool (decide (a≥b))):=by simp [bU]
@[simp] theorem NV:bU P C .eql t (.str x) (.str y)=some (.bool (x==y)):=by simp [bU]
@[simp] theorem NW:bU P C .neq t (.str x) (.str y)=some (.bool (!(x==y))):=by simp [bU]
theorem gS (h:x.length+y.length≤9223372036854775807):bU P C .add t (.str x) (.str y)=some (.str (x++y)):=by
 simp only [bU];rw [if_pos (by omega)]
theorem wW (h:b≠0):bU P C .quo t (.int k a) (.int k b)=some (.int k (k.wrap (a.tdiv b))):=by simp [bU,h]
theorem pX (h:b≠0):bU P C .rem t (.int k a) (.int k b)=some (.int k (a.tmod b)):=by simp [bU,h]
@[simp] theorem Q6:Lu .not (.bool p)=some (.bool !p):=Eq.trans rfl rfl
@[simp] theorem Q5:Lu .neg (.int k a)=some (.int k (k.wrap (0-a))):=Eq.trans rfl rfl
end bin
theorem lg {t:TypeId} {len elem n:Nat} (h:P.underlying t=some (.array len elem)) (hn:bF P elem=some n) (x ix:AV):aY P t x ix=(ii ix len).bind fun i=>bp x (i*n):=by
 simp only [aY,h,hn];cases ii ix len<;>rfl
theorem sU (K:IntKind) (k n:Nat):ii (.int K (k:Int)) n=if k<n then some k else none:=by
 simp only [ii];by_cases h:k<n
 ·rw [if_pos h,if_pos (by omega)];simp
 ·rw [if_neg h,if_neg (by omega)]
theorem aK {x:Int} (h1 : -9223372036854775808≤x) (h2:x≤9223372036854775807):IntKind.i64.wrap x=x:=IntWalk.i64_in x ⟨h1,h2⟩
theorem gy {k:Nat} (h:k≤9223372036854775807):IntKind.i64.wrap (k:Int)=k:=IntWalk.i64_in _ (by omega)
theorem ay {k n:Nat} (h:k<n) (hn:n≤9223372036854775807):IntKind.i64.wrap ((k:Int)+1)=((k+1:Nat):Int):=IntWalk.i64_in _ (by omega)
end Go.Proofs.Ev
namespace Go.Proofs.Ev
variable {P:Program}
theorem bw {t:TypeId} {x:TypeInfo} (h:∀w,(typeInfo t).run P w=.ok x w):P.info? t=some x:=by
 have h:=h default
 cases hi:P.info? t with
 | none=>simp [typeInfo,hi,Sem.run,program,stuck] at h
 | some y =>
  simp [typeInfo,hi,Sem.run,program] at h
  rw [h]
theorem du {t n:Nat} {x:TypeInfo} (h:P.info? t=some x) (hn:x.size=n):bF P t=some n:=by rw [bF,h,←hn];rfl
theorem ot {t n:Nat} {x:TypeInfo} (h:P.info? t=some x) (hn:x.bytes=n):bytesOf P t=some n:=by rw [bytesOf,h,←hn];rfl
def Mo:TypeDesc→Bool | .struct _ | .array _ _=>true | _=>false
theorem dy {t:TypeId} {x:TypeDesc} {b:Bool} (h:P.underlying t=some x) (hb:Mo x=b):bb P t=some b:=by
 rw [bb,h,←hb];cases x<;>rfl
theorem cS {t ft k n off:Nat} {fs:Array Field} {fd:Field} (h:P.underlying t=some (.struct fs)) (hf:fs[k]?=some fd) (ht:fd.type=ft) (hs:bF P ft=some (n+1)) (ho:fd.offset=off) (x:AV):bD P t x k=bp x off:=by
 simp only [bD,h,hf,ht,hs,ho]
theorem JM {t:TypeId} (h:P.underlying t=some .string) (H:ag) (l:List UInt8):fc P H t (.str l)=some (.int .i64 l.length):=by simp only [fc,h]
theorem fQ {t e:TypeId} (h:P.underlying t=some (.slice e)) (H:ag) (r:List (List AV)) (x:Bool):fc P H t (.lst r x)=some (.int .i64 r.length):=by simp only [fc,h]
theorem mq {t e:TypeId} (h:P.underlying t=some (.slice e)) (H:ag) (b g s l n:Nat):fc P H t (.sl b g s l n)=some (.int .i64 n):=by simp only [fc,h]
theorem rl {t e:TypeId} {n:Nat} (h:P.underlying t=some (.slice e)) (hn:bF P e=some n) (r:List (List AV)) (x:Bool) (ix:AV):aY P t (.lst r x) ix=(ii ix r.length).bind fun i=>(r[i]?).bind fun row=>if row.length=n then some (.eptr row) else none:=by
 simp only [aY,h,hn]
 cases ii ix r.length with
 | none=>rfl
 | some i=>cases h1:r[i]?<;>simp [h1]
theorem uh {t e:TypeId} {n:Nat} (h:P.underlying t=some (.slice e)) (hn:bF P e=some n) (b g s l m:Nat) (ix:AV):aY P t (.sl b g s l m) ix=if n=s then (ii ix m).map fun i=>.ptr b g s (l+i) 0 else none:=by
 simp only [aY,h,hn]
theorem Mp {t:TypeId} (h:P.underlying t=some .string) (l:List UInt8) (ix:AV):lf P t (.str l) ix=(ii ix l.length).bind fun i=>(l[i]?).map fun b=>.int .u8 b.toNat:=by
 simp only [lf,h];cases ii ix l.length<;>rfl
theorem oq {t:TypeId} {z:List AV} {fs:Array Field} (places:List (Nat×Nat)) (hz:aQ P t=some (.agg z)) (h:P.underlying t=some (.struct fs))
 (hp:fs.toList.mapM (fun f=>(bF P f.type).map fun s=>(f.offset,s))=some places) (ps:List (Nat×AV)):ed P t ps=(aE (fun i=>places[i]?) z ps).map .agg:=by
 simp only [ed,hz,h,hp];rfl
theorem A5 {t e n s:Nat} {z:List AV} (hz:aQ P t=some (.agg z)) (h:P.underlying t=some (.array n e)) (hs:bF P e=some s) (ps:List (Nat×AV)):ed P t ps=(aE (fun i=>some (i*s,s)) z ps).map .agg:=by
 simp only [ed,hz,h,hs];rfl
end Go.Proofs.Ev
namespace Go.Proofs.Ev
def dig (l:List Nat):List AV:=l.map fun (n:Nat)=>AV.int .u8 (n:Int)
@[simp] theorem Ps (l:List Nat):(dig l).length=l.length:=by simp [dig]
@[simp] theorem N5 (l:List Nat):(dig l).all AV.leaf=true:=by simp [dig]
theorem Dd {l:List Nat} {k:Nat} (h:k<l.length):((dig l).drop k).head?=some (.int .u8 l[k]):=by simp [dig,List.head?_drop,h]
inductive SK where | nil | exact | loose
 deriving DecidableEq
def aw (k:SK) (rows:List (List AV)):AV:=match k,rows with
 | .nil,[]=>.nils
 | .exact,rows=>.lst rows true
 | _,rows=>.lst rows false
@[simp] theorem lQ (k:SK) (rows:List (List AV)):(aw k rows).leaf=true:=by cases k<;>cases rows<;>rfl
@[simp] theorem MG (k:SK) (rows:List (List AV)):(aw k rows).cells=[aw k rows]:=by cases k<;>cases rows<;>rfl
theorem mC (k:SK) (rows:List (List AV)):∃e,(aw k rows).denil=.lst rows e:=by cases k<;>cases rows<;>exact ⟨_,rfl⟩
theorem gv {P:Program} {t e:TypeId} (h:P.underlying t=some (.slice e)) (H:ag) (k:SK) (rows:List (List AV)):fc P H t (aw k rows).denil=some (.int .i64 rows.length):=by
 obtain ⟨x,hx⟩:=mC k rows;rw [hx,fQ h]
theorem iQ {P:Program} {t e:TypeId} {n:Nat} (h:P.underlying t=some (.slice e)) (hn:bF P e=some n) (k:SK) (rows:List (List AV)) (ix:AV):aY P t (aw k rows) ix=(ii ix rows.length).bind fun i=>(rows[i]?).bind fun row=>if row.length=n then some (.eptr row) else none:=by
 cases rows with
 | nil =>
  have h0:ii ix 0=none:=by
   cases ix with
   | int K i=>simp only [ii];rw [if_neg (by omega)]
   | _=>rfl
  have e0:∀x,aY P t (.lst [] x) ix=none:=fun x=>by rw [rl h hn];show (ii ix 0).bind _=none;rw [h0];rfl
  have e1:aY P t .nils ix=none:=by simp only [aY,h,hn]
  show _=(ii ix 0).bind _
  rw [h0]
  cases k
  ·exact e1
  ·exact e0 _
  ·exact e0 _
 | cons r rows=>cases k<;>simp only [aw]<;>rw [rl h hn]
structure aI where
 d:List Nat
 n:Int
 h:d.length=32
 b:∀x∈d,x<256
def aI.cells (x:aI):List AV:=dig x.d++[.int .i64 x.n]
@[simp] theorem aI.len (x:aI):x.cells.length=33:=by simp [aI.cells,x.h]
@[simp] theorem aI.leafs (x:aI):x.cells.all AV.leaf=true:=by simp [aI.cells]
@[simp] theorem aI.dig (x:aI):x.cells.take 32=Ev.dig x.d:=by
 unfold aI.cells;rw [List.take_append_of_le_length (by simp [x.h])];exact List.take_of_length_le (by simp [x.h])
@[simp] theorem aI.num (x:aI):x.cells.drop 32=[.int .i64 x.n]:=by
 unfold aI.cells;rw [List.drop_append_of_le_length (by simp [x.h]),List.drop_of_length_le (by simp [x.h])];rfl
@[simp] theorem aI.num1 (x:aI):x.cells[32]?=some (.int .i64 x.n):=by
 rw [←List.head?_drop,x.num];rfl
def aP:List Nat:=List.replicate 32 0
def aO:aI:=⟨aP,0,by decide,by decide⟩
theorem cJ {l:List AV} {k:Nat} {v:AV} (h:l[k]?=some v) (hk:k<l.length):l[k]=v:=by
 rw [List.getElem?_eq_getElem hk] at h;exact Option.some.inj h
@[simp] theorem aI.num2 (x:aI) (h:32<x.cells.length):x.cells[32]=.int .i64 x.n:=cJ x.num1 h
@[simp] theorem aI.take33 (x:aI):x.cells.take 33=x.cells:=List.take_of_length_le (by simp)
@[simp] theorem aI.drop33 (x:aI):x.cells.drop 33=[]:=List.drop_of_length_le (by simp)
theorem dY {a b:List AV} {n m:Nat} (h:a.length=n) (hm:n≤m):(a++b).drop m=b.drop (m-n):=by
 subst h
 rw [List.drop_append,List.drop_of_length_le hm,List.nil_append]
theorem cZ:∀(a b:List AV),AV.closeds (a++b)=(AV.closeds a&&AV.closeds b)
 | [],b=>by simp [AV.closeds]
 | x::a,b=>by simp [AV.closeds,cZ a b,Bool.and_assoc]
theorem gk (l:List Nat):AV.closeds (dig l)=true:=by
 induction l with
 | nil=>rfl
 | cons a l ih=>simp only [dig,List.map_cons,AV.closeds,AV.closed,Bool.true_and];exact ih
@[simp] theorem aI.closed (x:aI):AV.closeds x.cells=true:=by simp [aI.cells,cZ,gk,AV.closeds,AV.closed]
theorem aM {α:Type} {f:α→List AV} (h:∀x,AV.closeds (f x)=true):∀l:List α,AV.closedss (l.map f)=true
 | []=>rfl
 | x::l=>by simp [AV.closedss,h x,aM h l]
theorem cP {k:SK} {rows:List (List AV)} (h:AV.closedss rows=true):(aw k rows).closed=true:=by
 cases k<;>cases rows<;>simp_all [aw,AV.closed,AV.closedss]
theorem gq (l:List Nat):dq (List.replicate l.length (.int .u8)) (dig l)=true:=by
 induction l with
 | nil=>rfl
 | cons a l ih =>
  simp only [List.length_cons,List.replicate_succ,dig,List.map_cons,dq]
  rw [show (List.map (fun (n:Nat)=>AV.int .u8 (n:Int)) l)=dig l from rfl,ih];rfl
theorem jy:∀(a b:List Nat),a.length=b.length→bP (dig a) (dig b)=decide (a=b)
 | [],[],_=>rfl
 | x::a,y::b,h=>by
  simp only [dig,List.map_cons,bP,mc]
  have ih:=jy a b (by simpa using h)
  simp only [dig] at ih
  rw [ih]
  by_cases h1:x=y
  ·subst h1;simp
  ·have:((x:Int)==(y:Int))=false:=by simp;omega
   rw [this];simp [h1]
end Go.Proofs.Ev
