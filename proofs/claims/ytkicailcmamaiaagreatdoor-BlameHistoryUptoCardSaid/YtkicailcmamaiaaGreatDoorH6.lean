/- Part 6 of the proof that quiltlaw38.BlameHistory returns true: no statement of its own. -/
import Derived.Test.YtkicailcmamaiaaGreatDoorH5
set_option linter.all false
namespace Go.Proofs.Ev
section
variable (P:Program) (C:bD) (N base:Nat)
def AC (g:Operand) (ps:Array Tmp) (assign body:Code) (s:Sl) (H:ae) (Q:cV):Prop :=
 ∀l,lV N l s→∃n e l' s' H',aP P C n base (.rangeFunc g ps assign body) l H=some (e,l',H')∧lV N l' s'∧Q e s' H'
def jb:Code→Sl→ae→cV→Prop
 | .skip,s,H,Q=>Q .normal s H
 | .label _,s,H,Q=>Q .normal s H
 | .ret,s,H,Q=>Q .ret s H
 | .exit id,s,H,Q=>Q (.exit id) s H
 | .seq a b,s,H,Q=>jb a s H (HE (jb b) Q)
 | .cond x a b,s,H,Q=>m9 (bU s x) (jb a s H Q) (jb b s H Q)
 | .block id b,s,H,Q=>jb b s H (mh id Q)
 | .loop b,s,H,Q=>Ft (jb b) s H Q
 | .region _ ops false,s,H,Q=>mM P C N base ops ops.toList s H (Q .normal)
 | .region _ ops true,s,H,Q=>iU P C N base ops 0 ops.toList s H (Q .normal)
 | .rangeFunc g ps assign body,s,H,Q=>AC P C N base g ps assign body s H Q
 | _,_,_,_=>False
end
def kC (P:Program):Code→Bool
 | .seq a b=>kC P a&&kC P b
 | .cond _ a b=>kC P a&&kC P b
 | .block _ b=>kC P b
 | .loop b=>kC P b
 | .region _ ops true=>wM P ops
 | _=>true
variable {P:Program} {C:bD} {N base:Nat}
theorem sk {ops:Array Oper} {Q Q':Sl→ae→Prop} (hq:∀s H,Q s H→Q' s H):∀{os:List Oper} {i:Nat} {s:Sl} {H:ae},iU P C N base ops i os s H Q→iU P C N base ops i os s H Q'
 | [],_,s,H,h=>hq s H h
 | _::_,_,_,_,h=>⟨h.1,sp h.2 fun _ _ h=>⟨h.1,sk hq h.2⟩⟩
theorem rS {b:Code} (ih:∀{s:Sl} {H:ae} {Q:cV},jb P C N base b s H Q→∀{l:List AV},lV N l s→∃n e l' s' H',aP P C n base b l H=some (e,l',H')∧lV N l' s'∧Q e s' H') {Q:cV} :
 ∀{k:Nat} {s:Sl} {H:ae},qj (jb P C N base b) Q k s H→∀{l:List AV},lV N l s→∃n e l' s' H',aP P C n base (.loop b) l H=some (e,l',H')∧lV N l' s'∧Q e s' H'
 | 0,_,_,h,_,_=>h.elim
 | k+1,s,H,h,l,hr=>by
  unfold qj at h
  obtain ⟨n,e,l',s',H',h1,h2,h3⟩:=ih h hr
  cases e with
  | normal =>
   obtain ⟨m,e,l2,s2,H2,h4,h5,h6⟩:=rS ih h3 h2
   refine ⟨n+m+1,e,l2,s2,H2,?_,h5,h6⟩
   rw [gY,eU (Nat.le_add_right n m) h1]
   exact eU (Nat.le_add_left m n) h4
  | exit i=>exact ⟨n+1,.exit i,l',s',H',by rw [gY,h1],h2,h3⟩
  | ret=>exact ⟨n+1,.ret,l',s',H',by rw [gY,h1],h2,h3⟩
theorem fO:∀{c:Code} {s:Sl} {H:ae} {Q:cV},kC P c=true→jb P C N base c s H Q→∀{l:List AV},lV N l s→∃n e l' s' H',aP P C n base c l H=some (e,l',H')∧lV N l' s'∧Q e s' H'
 | .skip,s,H,_,hst,h,l,hr=>⟨1,.normal,l,s,H,by simp only [aP],hr,h⟩
 | .label _,s,H,_,hst,h,l,hr=>⟨1,.normal,l,s,H,by simp only [aP],hr,h⟩
 | .ret,s,H,_,hst,h,l,hr=>⟨1,.ret,l,s,H,by simp only [aP],hr,h⟩
 | .exit i,s,H,_,hst,h,l,hr=>⟨1,.exit i,l,s,H,by simp only [aP],hr,h⟩
 | .seq a b,s,H,Q,hst,h,l,hr=>by
  unfold jb at h
  simp only [kC,Bool.and_eq_true] at hst
  obtain ⟨n,e,l',s',H',h1,h2,h3⟩:=fO hst.1 h hr
  cases e with
  | normal =>
   obtain ⟨m,e,l2,s2,H2,h4,h5,h6⟩:=fO hst.2 h3 h2
   refine ⟨n+m+1,e,l2,s2,H2,?_,h5,h6⟩
   simp only [aP]
   rw [eU (Nat.le_add_right n m) h1]
   exact eU (Nat.le_add_left m n) h4
  | exit i=>exact ⟨n+1,.exit i,l',s',H',by simp only [aP];rw [h1],h2,h3⟩
  | ret=>exact ⟨n+1,.ret,l',s',H',by simp only [aP];rw [h1],h2,h3⟩
 | .cond x a b,s,H,Q,hst,h,l,hr=>by
  unfold jb m9 at h
  simp only [kC,Bool.and_eq_true] at hst
  split at h
  ·rename_i hx
   obtain ⟨n,e,l',s',H',h1,h2,h3⟩:=fO hst.1 h hr
   exact ⟨n+1,e,l',s',H',by simp only [aP];rw [hr.val,hx];exact h1,h2,h3⟩
  ·rename_i hx
   obtain ⟨n,e,l',s',H',h1,h2,h3⟩:=fO hst.2 h hr
   exact ⟨n+1,e,l',s',H',by simp only [aP];rw [hr.val,hx];exact h1,h2,h3⟩
  ·exact h.elim
 | .block id b,s,H,Q,hst,h,l,hr=>by
  unfold jb at h
  obtain ⟨n,e,l',s',H',h1,h2,h3⟩:=fO (c:=b) hst h hr
  cases e with
  | normal=>exact ⟨n+1,.normal,l',s',H',by simp only [aP];rw [h1],h2,h3⟩
  | ret=>exact ⟨n+1,.ret,l',s',H',by simp only [aP];rw [h1],h2,h3⟩
  | exit i =>
   simp only [mh] at h3
   by_cases hi:i=id
   ·rw [if_pos hi] at h3
    exact ⟨n+1,.normal,l',s',H',by simp only [aP];rw [h1];simp [hi],h2,h3⟩
   ·rw [if_neg hi] at h3
    exact ⟨n+1,.exit i,l',s',H',by simp only [aP];rw [h1];simp [hi],h2,h3⟩
 | .loop b,s,H,Q,hst,h,l,hr=>by
  unfold jb at h
  obtain ⟨k,h⟩:=h
  exact rS (fun {s H Q} h {l} hr=>fO (c:=b) hst h hr) h hr
 | .region id ops false,s,H,Q,hst,h,l,hr=>by
  unfold jb at h
  obtain ⟨n,l',s',H',h1,h2,h3⟩:=sn h hr
  exact ⟨n+1,.normal,l',s',H',by simp only [aP];rw [h1],h2,h3⟩
 | .region id ops true,s,H,Q,hst,h,l,hr=>by
  unfold jb at h
  obtain ⟨n,tr,l',s',H',h1,h2,h3,h4⟩:=DH hst h l hr
  exact ⟨n+1,.normal,l',s',H',by simp only [aP];rw [h1];simp only;rw [if_pos h2],h3,h4⟩
 | .rangeFunc g ps assign body,s,H,Q,_,h,l,hr=>by unfold jb at h;exact h l hr
 | .scope _,_,_,_,_,h,_,_=>h.elim
 | .goto _,_,_,_,_,h,_,_=>h.elim
 | .refuse _,_,_,_,_,h,_,_=>h.elim
theorem gT:∀{c:Code} {s:Sl} {H:ae} {Q Q':cV},(∀e s H,Q e s H→Q' e s H)→jb P C N base c s H Q→jb P C N base c s H Q'
 | .skip,s,H,_,_,hq,h=>hq _ s H h
 | .label _,s,H,_,_,hq,h=>hq _ s H h
 | .ret,s,H,_,_,hq,h=>hq _ s H h
 | .exit i,s,H,_,_,hq,h=>hq _ s H h
 | .seq a b,s,H,Q,Q',hq,h=>by
  unfold jb at h ⊢
  refine gT (fun e s H h=>?_) h
  cases e with
  | normal=>exact gT (c:=b) hq h
  | exit i=>exact hq _ _ _ h
  | ret=>exact hq _ _ _ h
 | .cond x a b,s,H,Q,Q',hq,h=>by
  unfold jb m9 at h ⊢
  split at h
  ·exact gT hq h
  ·exact gT hq h
  ·exact h.elim
 | .block id b,s,H,Q,Q',hq,h=>by
  unfold jb at h ⊢
  refine gT (fun e s H h=>?_) h
  cases e with
  | normal=>exact hq _ _ _ h
  | exit i =>
   simp only [mh] at h ⊢
   by_cases hi:i=id
   ·rw [if_pos hi] at h ⊢;exact hq _ _ _ h
   ·rw [if_neg hi] at h ⊢;exact hq _ _ _ h
  | ret=>exact hq _ _ _ h
 | .loop b,s,H,Q,Q',hq,h=>by
  unfold jb at h ⊢
  obtain ⟨k,h⟩:=h
  refine ⟨k,?_⟩
  induction k generalizing s H with
  | zero=>exact h
  | succ k ih =>
   unfold qj at h ⊢
   refine gT (c:=b) (fun e s H h=>?_) h
   cases e with
   | normal=>exact ih _ _ h
   | exit i=>exact hq _ _ _ h
   | ret=>exact hq _ _ _ h
 | .region id ops false,s,H,Q,Q',hq,h=>by unfold jb at h ⊢;exact va (hq _) h
 | .region id ops true,s,H,Q,Q',hq,h=>by
  unfold jb at h ⊢
  exact sk (hq _) h
 | .rangeFunc g ps assign body,s,H,Q,Q',hq,h=>by
  unfold jb at h ⊢
  intro l hr
  obtain ⟨n,e,l',s',H',h1,h2,h3⟩:=h l hr
  exact ⟨n,e,l',s',H',h1,h2,hq _ _ _ h3⟩
 | .scope _,_,_,_,_,_,h=>h.elim
 | .goto _,_,_,_,_,_,h=>h.elim
 | .refuse _,_,_,_,_,_,h=>h.elim
theorem D9 {b:Code} {Q:cV} (I:Sl→ae→Prop) (m:Sl→ae→Nat) {s:Sl} {H:ae} (h0:I s H)
 (hstep:∀s H,I s H→jb P C N base b s H fun e s' H'=>match e with | .normal=>I s' H'∧m s' H'<m s H | .exit i=>Q (.exit i) s' H' | .ret=>Q .ret s' H') :
 Ft (jb P C N base b) s H Q:=by
 have key:∀(k:Nat) (s:Sl) (H:ae),I s H→m s H<k→qj (jb P C N base b) Q k s H:=by
  intro k
  induction k with
  | zero=>intro s H _ h;omega
  | succ k ih =>
   intro s H hi hm
   unfold qj
   refine gT (fun e s' H' h=>?_) (hstep s H hi)
   cases e with
   | normal=>exact ih s' H' h.1 (by have:=h.2;omega)
   | exit i=>exact h
   | ret=>exact h
 exact ⟨m s H+1,key _ _ _ h0 (by omega)⟩
def aE (args:List AV) (N:Nat):Sl:=fun t=>if t<args.length then args.getD t .undef else if t<N then .tup [] else .undef
theorem yG {args:List AV} {N:Nat} (h:args.length≤N):lV N (args++List.replicate (N-args.length) (.tup [])) (aE args N):=by
 refine ⟨by simp;omega,fun t=>?_⟩
 unfold aE
 rw [List.getD_eq_getElem?_getD]
 by_cases h1:t<args.length
 ·rw [if_pos h1,List.getElem?_append_left h1,List.getD_eq_getElem?_getD]
 ·rw [if_neg h1,List.getElem?_append_right (by omega)]
  by_cases h2:t<N
  ·rw [if_pos h2,List.getElem?_replicate,if_pos (by omega)];rfl
  ·rw [if_neg h2,List.getElem?_replicate,if_neg (by omega)];rfl
def ed (P:Program) (H:ae) (s:Sl):List ResultVar→Option (List AV)
 | []=>some []
 | .tmp t::l=>(ed P H s l).map (s t::·)
 | .cell a t::l =>
  match i6 P H t (s a),ed P H s l with
  | some v,some vs=>some (v::vs)
  | _,_=>none
theorem lV.results {l:List AV} {s:Sl} (h:lV N l s) {H:ae}:∀rs:List ResultVar,dM P H l rs=ed P H s rs
 | []=>rfl
 | .tmp t::rs=>by unfold dM ed;rw [h.results rs,h.2 t]
 | .cell a t::rs=>by unfold dM ed;rw [h.results rs,h.2 a];rfl
def EG (P:Program) (rs:List ResultVar) (K:AV→ae→Prop):cV:=fun e s H =>
 match e with
 | .exit _=>False
 | _=>match ed P H s rs with | some vs=>K (i7 vs) H | none=>False
theorem aj {f:FuncId} {fn:Func} {c:Code} {args:List AV} {H:ae} {K:AV→ae→Prop} (hf:P.funcs[f]?=some fn) (hc:fn.body=some c) (hp:C.prim f=none) (hn:args.length≤fn.ntmps) (hst:kC P c=true)
 (h:jb P C fn.ntmps base c (aE args fn.ntmps) H (EG P fn.results.toList K)):dU P C base f args H K:=by
 obtain ⟨n,e,l',s',H',h1,h2,h3⟩:=fO hst h (yG hn)
 unfold EG at h3
 have key:∀vs,ed P H' s' fn.results.toList=some vs→(e=.normal∨e=.ret)→cx P C (n+1) base f args H=some (i7 vs,H'):=by
  intro vs hv he
  unfold cx
  simp only [hp,hf,hc,h1]
  rcases he with rfl | rfl<;>simp [h2.results,hv]
 cases e with
 | exit i=>exact h3.elim
 | normal =>
  simp only at h3
  split at h3
  ·rename_i vs hv;exact ⟨n+1,_,H',key vs hv (.inl rfl),h3⟩
  ·exact h3.elim
 | ret =>
  simp only at h3
  split at h3
  ·rename_i vs hv;exact ⟨n+1,_,H',key vs hv (.inr rfl),h3⟩
  ·exact h3.elim
theorem bW {f:FuncId} {caps args:List AV} {H:ae} {K:AV→ae→Prop} (hp:C.pure f=false) (hz:C.frz f=false) (h:dU P C base f (args++caps) H K):aF P C base (.fn f caps) args H K:=by
 obtain ⟨n,v,H',h1,h2⟩:=h
 exact ⟨n+1,v,H',by simp only [dA,hp,hz];exact h1,h2⟩
theorem eH {f:FuncId} {caps args:List AV} {H:ae} {K:AV→ae→Prop} (hp:C.pure f=true)
 (h:dU P C H.length f (args++caps) H fun r H'=>∃r',aI H' H.length 3 r=some r'∧K r' H):aF P C base (.fn f caps) args H K:=by
 obtain ⟨n,v,H',h1,r',h2,h3⟩:=h
 exact ⟨n+1,r',H,by simp only [dA,hp];rw [h1];simp [h2],h3⟩
end Go.Proofs.Ev
namespace Go.Proofs.Ev
variable {P:Program} {C:bD} {N base:Nat}
def Fs (P:Program) (C:bD) (N base:Nat) (b:Code) (s:Sl) (H:ae) (Q:cV):Prop:=Ft (jb P C N base b) s H Q
@[simp ↓] theorem PB (s:Sl) (H:ae) (Q:cV):jb P C N base .skip s H Q=Q .normal s H:=Eq.trans rfl rfl
@[simp ↓] theorem QH (s:Sl) (H:ae) (Q:cV):jb P C N base .ret s H Q=Q .ret s H:=Eq.trans rfl rfl
@[simp ↓] theorem Pz (i:Nat) (s:Sl) (H:ae) (Q:cV):jb P C N base (.exit i) s H Q=Q (.exit i) s H:=Eq.trans rfl rfl
@[simp ↓] theorem QI (a b:Code) (s:Sl) (H:ae) (Q:cV):jb P C N base (.seq a b) s H Q=jb P C N base a s H (HE (jb P C N base b) Q):=Eq.trans rfl rfl
@[simp ↓] theorem Px (x:Operand) (a b:Code) (s:Sl) (H:ae) (Q:cV):jb P C N base (.cond x a b) s H Q=m9 (bU s x) (jb P C N base a s H Q) (jb P C N base b s H Q):=Eq.trans rfl rfl
@[simp ↓] theorem fI (i:Nat) (b:Code) (s:Sl) (H:ae) (Q:cV):jb P C N base (.block i b) s H Q=jb P C N base b s H (mh i Q):=Eq.trans rfl rfl
@[simp ↓] theorem PA (b:Code) (s:Sl) (H:ae) (Q:cV):jb P C N base (.loop b) s H Q=Fs P C N base b s H Q:=Eq.trans rfl rfl
@[simp ↓] theorem Nt (id:Nat) (ops:Array Oper) (s:Sl) (H:ae) (Q:cV):jb P C N base (.region id ops false) s H Q=mM P C N base ops ops.toList s H (Q .normal):=Eq.trans rfl rfl
@[simp ↓] theorem Py (id:Nat) (ops:Array Oper) (s:Sl) (H:ae) (Q:cV):jb P C N base (.region id ops true) s H Q=iU P C N base ops 0 ops.toList s H (Q .normal):=Eq.trans rfl rfl
@[simp ↓] theorem KZ (W:Sl→ae→cV→Prop) (Q:cV) (s:Sl) (H:ae):HE W Q .normal s H=W s H Q:=Eq.trans rfl rfl
@[simp ↓] theorem Nm (W:Sl→ae→cV→Prop) (Q:cV) (i:Nat) (s:Sl) (H:ae):HE W Q (.exit i) s H=Q (.exit i) s H:=Eq.trans rfl rfl
@[simp ↓] theorem OA (W:Sl→ae→cV→Prop) (Q:cV) (s:Sl) (H:ae):HE W Q .ret s H=Q .ret s H:=Eq.trans rfl rfl
@[simp ↓] theorem Il (id:Nat) (Q:cV) (s:Sl) (H:ae):mh id Q .normal s H=Q .normal s H:=Eq.trans rfl rfl
@[simp ↓] theorem Ln (id:Nat) (Q:cV) (s:Sl) (H:ae):mh id Q .ret s H=Q .ret s H:=Eq.trans rfl rfl
@[simp ↓] theorem Kv (id i:Nat) (Q:cV) (s:Sl) (H:ae):mh id Q (.exit i) s H=if i=id then Q .normal s H else Q (.exit i) s H:=Eq.trans rfl rfl
@[simp ↓] theorem KY (rs:List ResultVar) (K:AV→ae→Prop) (s:Sl) (H:ae):EG P rs K .normal s H=match ed P H s rs with | some vs=>K (i7 vs) H | none=>False:=Eq.trans rfl rfl
@[simp ↓] theorem Ow (rs:List ResultVar) (K:AV→ae→Prop) (s:Sl) (H:ae):EG P rs K .ret s H=match ed P H s rs with | some vs=>K (i7 vs) H | none=>False:=Eq.trans rfl rfl
@[simp] theorem JJ (H:ae) (s:Sl):ed P H s []=some []:=rfl
@[simp] theorem JK (H:ae) (s:Sl) (t:Nat) (l:List ResultVar):ed P H s (.tmp t::l)=(ed P H s l).map (s t::·):=rfl
@[simp] theorem Iq (H:ae) (s:Sl) (a t:Nat) (l:List ResultVar):ed P H s (.cell a t::l)=match i6 P H t (s a),ed P H s l with | some v,some vs=>some (v::vs) | _,_=>none:=rfl
@[simp] theorem Ng (v:AV):i7 [v]=v:=rfl
@[simp] theorem Nh (v w:AV) (l:List AV):i7 (v::w::l)=.tup (v::w::l):=rfl
@[simp] theorem Mb:i7 []=.tup []:=rfl
@[simp] theorem Ls (A B:Prop):m9 (.bool true) A B=A:=rfl
@[simp] theorem Kx (A B:Prop):m9 (.bool false) A B=B:=rfl
@[simp low] theorem tH (b:Bool) (A B:Prop):m9 (.bool b) A B=((b=true→A)∧(b=false→B)):=by cases b<;>simp
@[simp] theorem ML (p:Prop) [Decidable p] (A B:Prop):m9 (.bool (decide p)) A B=((p→A)∧(¬p→B)):=by rw [tH];simp
@[simp] theorem MM (b:Bool) (A B:Prop):m9 (.bool (!b)) A B=m9 (.bool b) B A:=by cases b<;>rfl
@[simp] theorem MK {α:Type} [BEq α] [LawfulBEq α] (x y:α) (A B:Prop):m9 (.bool (x==y)) A B=((x=y→A)∧(¬x=y→B)):=by rw [tH];simp
def L3 (P:Program) (C:bD) (N base:Nat) (ops:Array Oper) (l:List Oper) (d:Option Tmp) (s:Sl) (Q:Sl→ae→Prop):AV→ae→Prop:=fun v H'=>mM P C N base ops l (pu s d v) H' Q
@[simp ↓] theorem N9 (ops:Array Oper) (l:List Oper) (d:Option Tmp) (s:Sl) (Q:Sl→ae→Prop) (v:AV) (H':ae):L3 P C N base ops l d s Q v H'=mM P C N base ops l (pu s d v) H' Q:=Eq.trans rfl rfl
def wg (P:Program) (C:bD) (N base:Nat) (ops:Array Oper) (i:Nat) (l:List Oper) (d:Option Tmp) (s:Sl) (H:ae) (Q:Sl→ae→Prop):AV→ae→Prop:=fun v H'=>(rf P ops i=true→H'=H)∧iU P C N base ops (i+1) l (pu s d v) H' Q
@[simp ↓] theorem M5 (ops:Array Oper) (i:Nat) (l:List Oper) (d:Option Tmp) (s:Sl) (H:ae) (Q:Sl→ae→Prop) (v:AV):wg P C N base ops i l d s H Q v H=iU P C N base ops (i+1) l (pu s d v) H Q:=by simp [wg]
theorem aL (ops:Array Oper) (i:Nat) (l:List Oper) (d:Option Tmp) (s:Sl) (H:ae) (Q:Sl→ae→Prop) (v:AV) (H':ae) (h:rf P ops i=false):wg P C N base ops i l d s H Q v H'=iU P C N base ops (i+1) l (pu s d v) H' Q:=by simp [wg,h]
@[simp ↓] theorem Ns (ops:Array Oper) (s:Sl) (H:ae) (Q:Sl→ae→Prop):mM P C N base ops [] s H Q=Q s H:=Eq.trans rfl rfl
@[simp ↓] theorem MA (ops:Array Oper) (d:Option Tmp) (op:Op) (t:TypeId) (pos:String) (af:Array Edge) (l:List Oper) (s:Sl) (H:ae) (Q:Sl→ae→Prop) :
 mM P C N base ops (⟨d,op,t,pos,af,none⟩::l) s H Q=(nk N d∧dy P C base ⟨d,op,t,pos,af,none⟩ s H (L3 P C N base ops l d s Q)):=Eq.trans rfl rfl
def oa (v:AV) (w:Bool):Option Bool:=match v with | .bool b=>some (b==w) | .undef=>none | _=>some false
def jD (w:Option Bool) (W:(AV→ae→Prop)→Prop) (H:ae) (K:AV→ae→Prop):Prop:=si w (K (.tup []) H) (W K)
def an (ops:Array Oper) (s:Sl) (g:Nat×Bool):Option Bool:=match (ops[g.1]?).bind (·.dst) with | some d=>oa (s d) g.2 | none=>some false
@[simp ↓] theorem Le (ops:Array Oper) (d:Option Tmp) (op:Op) (t:TypeId) (pos:String) (af:Array Edge) (g:Nat×Bool) (l:List Oper) (s:Sl) (H:ae) (Q:Sl→ae→Prop) :
 mM P C N base ops (⟨d,op,t,pos,af,some g⟩::l) s H Q=(nk N d∧jD (an ops s g) (fun K=>dy P C base ⟨d,op,t,pos,af,none⟩ s H K) H (L3 P C N base ops l d s Q)):=Eq.trans rfl rfl
@[simp ↓] theorem Mz (ops:Array Oper) (i:Nat) (s:Sl) (H:ae) (Q:Sl→ae→Prop):iU P C N base ops i [] s H Q=Q s H:=Eq.trans rfl rfl
@[simp ↓] theorem Ld (ops:Array Oper) (i:Nat) (d:Option Tmp) (op:Op) (t:TypeId) (pos:String) (af:Array Edge) (l:List Oper) (s:Sl) (H:ae) (Q:Sl→ae→Prop) :
 iU P C N base ops i (⟨d,op,t,pos,af,none⟩::l) s H Q=(nk N d∧dy P C base ⟨d,op,t,pos,af,none⟩ s H (wg P C N base ops i l d s H Q)):=Eq.trans rfl rfl
@[simp ↓] theorem Kn (ops:Array Oper) (i:Nat) (d:Option Tmp) (op:Op) (t:TypeId) (pos:String) (af:Array Edge) (g:Nat×Bool) (l:List Oper) (s:Sl) (H:ae) (Q:Sl→ae→Prop) :
 iU P C N base ops i (⟨d,op,t,pos,af,some g⟩::l) s H Q=(nk N d∧jD (an ops s g) (fun K=>dy P C base ⟨d,op,t,pos,af,none⟩ s H K) H (wg P C N base ops i l d s H Q)):=Eq.trans rfl rfl
@[simp] theorem Lz (d:Nat):nk N (some d)=(d<N):=rfl
@[simp] theorem Ly:nk N none=True:=rfl
@[simp] theorem Nl (s:Sl) (d:Nat) (v:AV):pu s (some d) v=K5 s d v:=rfl
@[simp] theorem Nk (s:Sl) (v:AV):pu s none v=s:=rfl
@[simp] theorem QG (s:Sl) (d:Nat) (v:AV):K5 s d v d=v:=if_pos rfl
@[simp] theorem Pv (s:Sl) (d t:Nat) (v:AV):K5 s d v t=if t=d then v else s t:=rfl
@[simp] theorem OM (s:Sl) (t:Nat):bU s (.tmp t)=s t:=rfl
@[simp] theorem Mu (s:Sl) (v:Value):bU s (.const v)=ofValue v:=rfl
@[simp] theorem Np (s:Sl) (f:FuncId):bU s (.func f)=.fn f []:=rfl
@[simp] theorem Jg (b:Bool):ofValue (.bool b)=.bool b:=rfl
@[simp] theorem KP (k:IntKind) (n:Int):ofValue (.int k n)=.int k n:=rfl
@[simp] theorem KQ (b:ByteArray):ofValue (.string b)=.str b.data.toList:=rfl
@[simp] theorem Jj:ofValue (.pointer none)=.nilp:=rfl
@[simp] theorem Jk:ofValue (.slice none 0 0)=.nils:=rfl
@[simp] theorem Ji:ofValue (.map none)=.nilm:=rfl
@[simp] theorem Jh:ofValue .nilFunc=.nilf:=rfl
@[simp] theorem Mw (K A:Prop):si (some true) K A=A:=rfl
@[simp] theorem K8 (K A:Prop):si (some false) K A=K:=rfl
@[simp] theorem Na (v:AV) (H:ae) (K:AV→ae→Prop):(match (some (v,H):Option (AV×ae)) with | some (v,H')=>K v H' | none=>False)=K v H:=rfl
section ops
variable (d:Option Tmp) (ty:TypeId) (pos:String) (af:Array Edge) (g:Option (Nat×Bool)) (s:Sl) (H:ae) (K:AV→ae→Prop)
def qf (r:Option (AV×ae)) (K:AV→ae→Prop):Prop:=match r with | some (v,H')=>K v H' | none=>False
@[simp] theorem DS (v:AV) (H:ae) (K:AV→ae→Prop):qf (some (v,H)) K=K v H:=rfl
def gN (r:Option AV) (H:ae) (K:AV→ae→Prop):Prop:=match r with | some v=>K v H | none=>False
@[simp] theorem MW (v:AV) (H:ae) (K:AV→ae→Prop):gN (some v) H K=K v H:=rfl
def vl (r:Option ae) (K:AV→ae→Prop):Prop:=match r with | some H=>K (.tup []) H | none=>False
@[simp] theorem MU (H:ae) (K:AV→ae→Prop):vl (some H) K=K (.tup []) H:=rfl
theorem eG (r:Option AV):qf (my H r) K=gN r H K:=by cases r<;>rfl
theorem nT (r:Option ae):qf (zP r) K=vl r K:=by cases r<;>rfl
@[simp] theorem NP (c:Prop) [Decidable c] (a:AV):gN (if c then some a else none) H K=(c∧K a H):=by by_cases h:c<;>simp [h,gN]
@[simp] theorem NO (c:Prop) [Decidable c] (a:ae):vl (if c then some a else none) K=(c∧K (.tup []) a):=by by_cases h:c<;>simp [h,vl]
@[simp] theorem NQ (c:Prop) [Decidable c] (a:AV×ae):qf (if c then some a else none) K=(c∧K a.1 a.2):=by by_cases h:c<;>simp [h,qf]
@[congr] theorem LJ {r r':Option AV} (H:ae) (K:AV→ae→Prop) (h:r=r'):gN r H K=gN r' H K:=by rw [h]
@[congr] theorem LL {r r':Option (AV×ae)} (K:AV→ae→Prop) (h:r=r'):qf r K=qf r' K:=by rw [h]
@[congr] theorem LI {r r':Option ae} (K:AV→ae→Prop) (h:r=r'):vl r K=vl r' K:=by rw [h]
theorem yr {o:Oper} (h:∀f args ats,o.op≠.call { callee:=.value f,args,argTypes:=ats }):dy P C base o s H K=qf (wv P C base H (bU s) o) K:=by
 unfold dy
 split
 ·rename_i f args ats e;exact absurd e (h f args ats)
 ·rfl
@[simp ↓] theorem Ps (x:Operand):dy P C base ⟨d,.move x,ty,pos,af,g⟩ s H K=K (bU s x) H:=Eq.trans rfl rfl
@[simp ↓] theorem Nc (x:Operand):dy P C base ⟨d,.assign x,ty,pos,af,g⟩ s H K=K (bU s x) H:=Eq.trans rfl rfl
def CT (c a b:AV):Option AV:=match c with | .bool t=>some (if t then a else b) | _=>none
@[simp ↓] theorem Jo (c a b:Operand):dy P C base ⟨d,.pick c a b,ty,pos,af,g⟩ s H K=gN (CT (bU s c) (bU s a) (bU s b)) H K:=by
 rw [yr (h:=by intro f args ats e;cases e)];simp only [wv,CT];cases bU s c<;>rfl
@[simp ↓] theorem Oi (t:TypeId):dy P C base ⟨d,.alloc t,ty,pos,af,g⟩ s H K=qf (match aN P t with | some z=>if some z.cells.length=br P t then some (iG H (dN P t) z) else none | none=>none) K:=Eq.trans rfl rfl
@[simp ↓] theorem Qu (t:TypeId) (x:Operand):dy P C base ⟨d,.box t x,ty,pos,af,g⟩ s H K=qf (if (bU s x).cells.all AV.leaf then some (fu H (bU s x)) else none) K:=Eq.trans rfl rfl
@[simp ↓] theorem GS (t:TypeId) (ps:Array (Nat×Operand)):dy P C base ⟨d,.build t ps,ty,pos,af,g⟩ s H K=gN (d5 P t (ps.toList.map fun x=>(x.1,bU s x.2))) H K:=by
 rw [←eG];rfl
@[simp ↓] theorem Io (t:TypeId) (n:Nat) (ps:Array (Nat×Operand)):dy P C base ⟨d,.buildSlice t n ps,ty,pos,af,g⟩ s H K=gN (ah P t n (ps.toList.map fun x=>(x.1,bU s x.2))) H K:=by
 rw [←eG];rfl
@[simp ↓] theorem Jm (t:TypeId) (a:Operand):dy P C base ⟨d,.load t a,ty,pos,af,g⟩ s H K=gN (i6 P H t (bU s a)) H K:=by rw [←eG];rfl
@[simp ↓] theorem Om (t:TypeId) (a x:Operand):dy P C base ⟨d,.store t a x,ty,pos,af,g⟩ s H K=vl (ao P base H t (bU s a) (bU s x)) K:=by rw [←nT];rfl
def GQ (v:AV) (H:ae) (K:AV→ae→Prop):Prop:=match v with | .ptr .. | .eptr _ | .fn ..=>K v H | _=>False
@[simp] theorem Oh (b g e i f:Nat):GQ (.ptr b g e i f) H K=K (.ptr b g e i f) H:=rfl
@[simp] theorem M9 (c:List AV):GQ (.eptr c) H K=K (.eptr c) H:=rfl
@[simp] theorem Pp (f:FuncId) (c:List AV):GQ (.fn f c) H K=K (.fn f c) H:=rfl
@[simp ↓] theorem KV (x:Operand):dy P C base ⟨d,.nilCheck x,ty,pos,af,g⟩ s H K=GQ (bU s x) H K:=by
 rw [yr (h:=by intro f args ats e;cases e)];simp only [wv,GQ];cases bU s x<;>rfl
@[simp ↓] theorem L5 (op:BinOp) (t u:TypeId) (x y:Operand):dy P C base ⟨d,.binOp op t x y u,ty,pos,af,g⟩ s H K=gN (bP P C op t (bU s x) (bU s y)) H K:=by rw [←eG];rfl
@[simp ↓] theorem On (op:UnOp) (t:TypeId) (x:Operand):dy P C base ⟨d,.unOp op t x,ty,pos,af,g⟩ s H K=gN (K4 op (bU s x)) H K:=by rw [←eG];rfl
@[simp ↓] theorem L6 (a b:TypeId) (x:Operand):dy P C base ⟨d,.convert a b x,ty,pos,af,g⟩ s H K=qf (bn P H a b (bU s x).denil) K:=Eq.trans rfl rfl
@[simp ↓] theorem KT (f:FuncId) (caps:Array Operand):dy P C base ⟨d,.makeFunc (.func f) #[] caps,ty,pos,af,g⟩ s H K=K (.fn f (caps.toList.map (bU s))) H:=Eq.trans rfl rfl
@[simp ↓] theorem L9 (t:TypeId):dy P C base ⟨d,.makeMap t none,ty,pos,af,g⟩ s H K=K (.map H.length) (H++[.map []]):=Eq.trans rfl rfl
@[simp ↓] theorem Ol (t:TypeId) (x:Operand) (lo hi mx:Option Operand):dy P C base ⟨d,.slice t x lo hi mx,ty,pos,af,g⟩ s H K=gN (dw P t (bU s x).denil (lo.map (bU s)) (hi.map (bU s)) (mx.map (bU s))) H K:=by rw [←eG];rfl
@[simp ↓] theorem xL (t:TypeId) (x:Operand) (f:Nat):dy P C base ⟨d,.fieldAddr t x f,ty,pos,af,g⟩ s H K=gN (bB P t (bU s x) f) H K:=by rw [←eG];rfl
@[simp ↓] theorem xM (t:TypeId) (x i:Operand):dy P C base ⟨d,.indexAddr t x i,ty,pos,af,g⟩ s H K=gN (aX P t (bU s x) (bU s i)) H K:=by rw [←eG];rfl
@[simp ↓] theorem GT (t:TypeId) (x i:Operand):dy P C base ⟨d,.index t x i,ty,pos,af,g⟩ s H K=gN (kZ P t (bU s x).denil (bU s i)) H K:=by rw [←eG];rfl
@[simp ↓] theorem Ep (t:TypeId) (m k:Operand) (ok:Bool):dy P C base ⟨d,.lookup t m k ok,ty,pos,af,g⟩ s H K=gN (cU P C H t (bU s m) (bU s k) ok) H K:=by rw [←eG];rfl
@[simp ↓] theorem Jn (t:TypeId) (m k x:Operand):dy P C base ⟨d,.mapUpdate t m k x,ty,pos,af,g⟩ s H K=vl (dS P C base H t (bU s m) (bU s k) (bU s x)) K:=by rw [←nT];rfl
@[simp ↓] theorem Nd (t:TypeId) (m k x:Operand):dy P C base ⟨d,.insert t m k x,ty,pos,af,g⟩ s H K=vl (dS P C base H t (bU s m) (bU s k) (bU s x)) K:=by rw [←nT];rfl
def tO (v:AV) (i:Nat) (H:ae) (K:AV→ae→Prop):Prop:=match v with | .tup vs=>gN (vs[i]?) H K | _=>False
@[simp] theorem IR (vs:List AV) (i:Nat):tO (.tup vs) i H K=gN (vs[i]?) H K:=rfl
@[simp ↓] theorem L7 (x:Operand) (i:Nat):dy P C base ⟨d,.extract x i,ty,pos,af,g⟩ s H K=tO (bU s x) i H K:=by
 rw [yr (h:=by intro f args ats e;cases e)];simp only [wv,tO];cases bU s x<;>first | rfl | (simp only [eG])
@[simp ↓] theorem L8 (x:Operand) (t:TypeId):dy P C base ⟨d,.call ⟨.builtin .len,#[x],#[t]⟩,ty,pos,af,g⟩ s H K=gN (fQ P H t (bU s x).denil) H K:=by rw [←eG];rfl
@[simp ↓] theorem Oj (x:Operand) (t:TypeId):dy P C base ⟨d,.call ⟨.builtin .clear,#[x],#[t]⟩,ty,pos,af,g⟩ s H K=qf (zP (oS P base H t (bU s x).denil)) K:=Eq.trans rfl rfl
@[simp ↓] theorem Nb (x y:Operand) (ts:Array TypeId):dy P C base ⟨d,.call ⟨.builtin .append,#[x,y],ts⟩,ty,pos,af,g⟩ s H K=qf (bg P base H ts (bU s x).denil (bU s y).denil) K:=Eq.trans rfl rfl
@[simp ↓] theorem Pr (f:Operand) (args:Array Operand) (ts:Array TypeId):dy P C base ⟨d,.call ⟨.value f,args,ts⟩,ty,pos,af,g⟩ s H K=aF P C base (bU s f) (args.toList.map (bU s)) H K:=Eq.trans rfl rfl
def uf (c:Bool) (W:(AV→ae→Prop)→Prop) (H:ae) (K:AV→ae→Prop):Prop:=jD (some c) W H K
@[simp] theorem LQ (c:Bool) (W:(AV→ae→Prop)→Prop):jD (some c) W H K=uf c W H K:=rfl
@[congr] theorem I0 {c c':Bool} {W W':(AV→ae→Prop)→Prop} (H:ae) (K:AV→ae→Prop) (h:c=c') (hW:c'=true→∀K,W K=W' K):uf c W H K=uf c' W' H K:=by
 subst h
 cases c with
 | false=>rfl
 | true=>exact hW rfl K
@[simp] theorem I1 (W:(AV→ae→Prop)→Prop):uf false W H K=K (.tup []) H:=Eq.trans rfl rfl
def rc (w:Option Bool) (r:Option AV):Option AV:=match w with | some true=>r | some false=>some (.tup []) | none=>none
def Fl (p:Bool) (a b:AV):AV:=match p with | true=>a | false=>b
@[congr] theorem Ni {p q:Bool} {a a' b b':AV} (h:p=q) (h1:q=true→a=a') (h2:q=false→b=b'):Fl p a b=Fl q a' b':=by
 subst h;cases p<;>simp [Fl,h1,h2]
@[simp] theorem Ot (a b:AV):Fl true a b=a:=Eq.trans rfl rfl
@[simp] theorem Nj (a b:AV):Fl false a b=b:=Eq.trans rfl rfl
@[simp] theorem Oq (p:Bool) (a:AV):Fl p a a=a:=by cases p<;>rfl
@[simp] theorem Pt (p a:Bool):Fl p (.bool a) (.bool false)=.bool (p&&a):=by cases p<;>cases a<;>rfl
@[simp] theorem Qv (p a:Bool):Fl p (.bool true) (.bool a)=.bool (p||a):=by cases p<;>cases a<;>rfl
def LM (p:Bool) (r:Option AV):Option AV:=match p with | true=>r | false=>some (.tup [])
@[congr] theorem MY {p q:Bool} {r r':Option AV} (h:p=q) (h1:q=true→r=r'):LM p r=LM q r':=by
 subst h;cases p<;>simp [LM,h1]
@[simp] theorem NS (r:Option AV):LM true r=r:=Eq.trans rfl rfl
@[simp] theorem MZ (r:Option AV):LM false r=some (.tup []):=Eq.trans rfl rfl
@[simp] theorem NR (p:Bool) (v:AV):LM p (some v)=some (Fl p v (.tup [])):=by cases p<;>rfl
@[simp] theorem M4 (c:Bool) (r:Option AV):rc (some c) r=LM c r:=by cases c<;>rfl
@[simp] theorem Mc (t:Bool) (a b:AV):CT (.bool t) a b=some (Fl t a b):=by cases t<;>rfl
@[simp] theorem LP (c:Bool) (v:AV):uf c (fun K=>K v H) H K=K (Fl c v (.tup [])) H:=by cases c<;>rfl
theorem d7 (w:Option Bool) (r:Option AV):jD w (fun K=>gN r H K) H K=gN (rc w r) H K:=by
 rcases w with _ | _ | _<;>rfl
@[simp ↓] theorem NU (w:Option Bool) (x:Operand):jD w (fun K=>dy P C base ⟨d,.move x,ty,pos,af,g⟩ s H K) H K=gN (rc w (some (bU s x))) H K:=by rw [←d7];rfl
@[simp ↓] theorem NV (w:Option Bool) (c a b:Operand):jD w (fun K=>dy P C base ⟨d,.pick c a b,ty,pos,af,g⟩ s H K) H K=gN (rc w (CT (bU s c) (bU s a) (bU s b))) H K:=by rw [←d7];congr 1;funext K;rw [Jo]
@[simp ↓] theorem Pi (w:Option Bool) (op:BinOp) (t u:TypeId) (x y:Operand):jD w (fun K=>dy P C base ⟨d,.binOp op t x y u,ty,pos,af,g⟩ s H K) H K=gN (rc w (bP P C op t (bU s x) (bU s y))) H K:=by rw [←d7];congr 1;funext K;rw [L5]
@[simp ↓] theorem Qf (w:Option Bool) (op:UnOp) (t:TypeId) (x:Operand):jD w (fun K=>dy P C base ⟨d,.unOp op t x,ty,pos,af,g⟩ s H K) H K=gN (rc w (K4 op (bU s x))) H K:=by rw [←d7];congr 1;funext K;rw [On]
@[simp ↓] theorem NT (w:Option Bool) (t:TypeId) (x:Operand):jD w (fun K=>dy P C base ⟨d,.load t x,ty,pos,af,g⟩ s H K) H K=gN (rc w (i6 P H t (bU s x))) H K:=by rw [←d7];congr 1;funext K;rw [Jm]
@[simp ↓] theorem M1 (w:Option Bool) (t:TypeId) (x:Operand) (f:Nat):jD w (fun K=>dy P C base ⟨d,.fieldAddr t x f,ty,pos,af,g⟩ s H K) H K=gN (rc w (bB P t (bU s x) f)) H K:=by rw [←d7];congr 1;funext K;rw [xL]
@[simp ↓] theorem M2 (w:Option Bool) (t:TypeId) (x i:Operand):jD w (fun K=>dy P C base ⟨d,.indexAddr t x i,ty,pos,af,g⟩ s H K) H K=gN (rc w (aX P t (bU s x) (bU s i))) H K:=by rw [←d7];congr 1;funext K;rw [xM]
@[simp ↓] theorem M3 (w:Option Bool) (t:TypeId) (x i:Operand):jD w (fun K=>dy P C base ⟨d,.index t x i,ty,pos,af,g⟩ s H K) H K=gN (rc w (kZ P t (bU s x).denil (bU s i))) H K:=by rw [←d7];congr 1;funext K;rw [GT]
@[simp ↓] theorem M0 (w:Option Bool) (t:TypeId) (ps:Array (Nat×Operand)):jD w (fun K=>dy P C base ⟨d,.build t ps,ty,pos,af,g⟩ s H K) H K=gN (rc w (d5 P t (ps.toList.map fun x=>(x.1,bU s x.2)))) H K:=by rw [←d7];congr 1;funext K;rw [GS]
@[simp ↓] theorem LN (w:Option Bool) (t:TypeId) (m k:Operand) (ok:Bool):jD w (fun K=>dy P C base ⟨d,.lookup t m k ok,ty,pos,af,g⟩ s H K) H K=gN (rc w (cU P C H t (bU s m) (bU s k) ok)) H K:=by rw [←d7];congr 1;funext K;rw [Ep]
@[simp ↓] theorem Pj (w:Option Bool) (x:Operand) (t:TypeId):jD w (fun K=>dy P C base ⟨d,.call ⟨.builtin .len,#[x],#[t]⟩,ty,pos,af,g⟩ s H K) H K=gN (rc w (fQ P H t (bU s x).denil)) H K:=by rw [←d7];congr 1;funext K;rw [L8]
end ops
@[simp] theorem MO (c:List AV):AV.denil (.agg c)=.agg c:=rfl
@[simp] theorem MT (c:List UInt8):AV.denil (.str c)=.str c:=rfl
@[simp] theorem qV (c:List (List AV)) (e:Bool):AV.denil (.lst c e)=.lst c e:=rfl
@[simp] theorem MQ (k:IntKind) (n:Int):AV.denil (.int k n)=.int k n:=rfl
@[simp] theorem Lw:AV.denil .nils=.lst [] true:=rfl
@[simp] theorem Lv:AV.denil .nilm=.nilm:=rfl
@[simp] theorem MR (b:Nat):AV.denil (.map b)=.map b:=rfl
@[simp] theorem NJ (b g e l n:Nat):AV.denil (.sl b g e l n)=.sl b g e l n:=rfl
@[simp] theorem MP (b g e i l n:Nat):AV.denil (.asl b g e i l n)=.asl b g e i l n:=rfl
@[simp] theorem MD (c:List AV):AV.cells (.agg c)=c:=rfl
@[simp] theorem ME (k:IntKind) (n:Int):AV.cells (.int k n)=[.int k n]:=rfl
@[simp] theorem MI (c:List UInt8):AV.cells (.str c)=[.str c]:=rfl
@[simp] theorem Lp (b:Bool):AV.cells (.bool b)=[.bool b]:=rfl
@[simp] theorem MF (c:List (List AV)) (e:Bool):AV.cells (.lst c e)=[.lst c e]:=rfl
@[simp] theorem NF (b g e l n:Nat):AV.cells (.sl b g e l n)=[.sl b g e l n]:=rfl
@[simp] theorem MH (b g e l n:Nat):AV.cells (.ptr b g e l n)=[.ptr b g e l n]:=rfl
@[simp] theorem Lr:AV.cells .nils=[.nils]:=rfl
@[simp] theorem Lq:AV.cells .nilp=[.nilp]:=rfl
@[simp] theorem MG (b:Nat):AV.cells (.map b)=[.map b]:=rfl
@[simp] theorem NE (f:FuncId) (c:List AV):AV.cells (.fn f c)=[.fn f c]:=rfl
@[simp] theorem nw (k:IntKind) (n:Int):AV.leaf (.int k n)=true:=rfl
@[simp] theorem nx (c:List UInt8):AV.leaf (.str c)=true:=rfl
@[simp] theorem lD (b:Bool):AV.leaf (.bool b)=true:=rfl
@[simp] theorem Oa (c:List (List AV)) (e:Bool):AV.leaf (.lst c e)=true:=rfl
@[simp] theorem Po (b g e l n:Nat):AV.leaf (.sl b g e l n)=true:=rfl
@[simp] theorem Oc (b g e l n:Nat):AV.leaf (.ptr b g e l n)=true:=rfl
@[simp] theorem M7:AV.leaf .nils=true:=rfl
@[simp] theorem M6:AV.leaf .nilp=true:=rfl
@[simp] theorem Ob (b:Nat):AV.leaf (.map b)=true:=rfl
@[simp] theorem Pn (f:FuncId) (c:List AV):AV.leaf (.fn f c)=true:=rfl
@[simp] theorem MC (H:ae) (g:Nat) (v:AV):iG H g v=(.ptr H.length g v.cells.length 0 0,H++[.rows v.cells.length g [v.cells]]):=rfl
@[simp] theorem MB (H:ae) (v:AV):fu H v=(.ptr H.length 0 v.cells.length 0 0,H++[.rows v.cells.length 0 [v.cells]]):=rfl
@[simp] theorem sV (b g e i f n:Nat):bk (.ptr b g e i f) n=some (.ptr b g e i (f+n)):=Eq.trans rfl rfl
@[simp] theorem rD (c:List AV) (n:Nat):bk (.eptr c) n=if n≤c.length then some (.eptr (c.drop n)) else none:=Eq.trans rfl rfl
@[simp] theorem Ki (b w:Bool):oa (.bool b) w=some (b==w):=rfl
@[simp] theorem Lc (l:List AV) (w:Bool):oa (.tup l) w=some false:=rfl
def RJ (p:Bool) (a b:Option Bool):Option Bool:=match p with | true=>a | false=>b
@[simp] theorem Pq (p a:Bool):RJ p (some a) (some false)=some (p&&a):=by cases p<;>cases a<;>rfl
@[simp] theorem K9 (c:Bool) (a b:AV) (w:Bool):oa (Fl c a b) w=RJ c (oa a w) (oa b w):=by cases c<;>rfl
@[simp] theorem bq (H L:ae) (k:Nat):(H++L)[H.length+k]?=L[k]?:=by rw [List.getElem?_append_right (by omega)];congr 1;omega
@[simp] theorem yF (H L:ae):(H++L)[H.length]?=L[0]?:=bq H L 0
@[simp] theorem pP (H L:ae) (k:Nat) (v:bL):(H++L).set (H.length+k) v=H++L.set k v:=by
 have h:=List.set_append_right (s:=H) (t:=L) (H.length+k) v (Nat.le_add_right _ _)
 rw [Nat.add_sub_cancel_left] at h
 exact h
theorem d8 {b:Code} {Q:cV} (I:Sl→ae→Prop) (m:Sl→ae→Nat) {s:Sl} {H:ae} (h0:I s H)
 (hstep:∀s H,I s H→jb P C N base b s H fun e s' H'=>match e with | .normal=>I s' H'∧m s' H'<m s H | .exit i=>Q (.exit i) s' H' | .ret=>Q .ret s' H') :
 Fs P C N base b s H Q:=D9 I m h0 hstep
def AZ (M:Sl→ae→Prop) (Q:cV):cV:=fun e s H=>match e with | .normal=>M s H | .exit i=>Q (.exit i) s H | .ret=>Q .ret s H
@[simp ↓] theorem Ky (M:Sl→ae→Prop) (Q:cV) (s:Sl) (H:ae):AZ M Q .normal s H=M s H:=Eq.trans rfl rfl
@[simp ↓] theorem MN (M:Sl→ae→Prop) (Q:cV) (i:Nat) (s:Sl) (H:ae):AZ M Q (.exit i) s H=Q (.exit i) s H:=Eq.trans rfl rfl
@[simp ↓] theorem NH (M:Sl→ae→Prop) (Q:cV) (s:Sl) (H:ae):AZ M Q .ret s H=Q .ret s H:=Eq.trans rfl rfl
theorem cut {a b:Code} (M:Sl→ae→Prop) {s:Sl} {H:ae} {Q:cV} (h1:jb P C N base a s H (AZ M Q)) (h2:∀s H,M s H→jb P C N base b s H Q):jb P C N base (.seq a b) s H Q:=by
 refine gT (c:=a) (fun e s' H' h=>?_) h1
 cases e with
 | normal=>exact h2 s' H' h
 | exit i=>exact h
 | ret=>exact h
end Go.Proofs.Ev
namespace Go.Proofs.Ev
variable {P:Program} {C:bD} {N base:Nat}
def b8 (P:Program) (C:bD) (f:FuncId) (caps args:List AV) (v:AV):Prop:=∀base H,∃n,dA P C n base (.fn f caps) args H=some (v,H)
theorem b8.eq {f:FuncId} {caps args:List AV} {v:AV} (h:b8 P C f caps args v) (base:Nat) (H:ae) (K:AV→ae→Prop):aF P C base (.fn f caps) args H K=K v H:=by
 obtain ⟨n,hn⟩:=h base H
 apply propext
 constructor
 ·rintro ⟨m,v',H',h1,h2⟩
  have e1:=jd (Nat.le_max_left n m) hn
  have e2:=jd (Nat.le_max_right n m) h1
  rw [e1] at e2
  simp only [Option.some.injEq,Prod.mk.injEq] at e2
  obtain ⟨rfl,rfl⟩:=e2
  exact h2
 ·intro h2;exact ⟨n,v,H,hn,h2⟩
theorem aw {f:FuncId} {caps args:List AV} {v:AV} (hp:C.pure f=true)
 (h:∀H:ae,dU P C H.length f (args++caps) H fun r H'=>aI H' H.length 3 r=some v):b8 P C f caps args v:=by
 intro base H
 obtain ⟨n,r,H',h1,h2⟩:=h H
 exact ⟨n+1,by simp only [dA,hp];rw [h1];simp [h2]⟩
def sq (P:Program) (C:bD) (f:FuncId) (aS:List AV) (v:AV):Prop:=C.pure f=false∧C.frz f=true∧v.flat=true∧∃n H',cx P C n 0 f aS []=some (v,H')
theorem JO {f:FuncId} {aS:List AV} {v:AV} (hp:C.pure f=false) (hz:C.frz f=true) (hv:v.flat=true) (h:dU P C 0 f aS [] fun r _=>r=v):sq P C f aS v:=by
 obtain ⟨n,r,H',h1,rfl⟩:=h
 exact ⟨hp,hz,hv,n,H',h1⟩
theorem lN {f:FuncId} {aS:List AV} {v:AV} (hp:C.pure f=false) (hz:C.frz f=true) (hv:v.flat=true) (h:∀H:ae,dU P C H.length f aS H fun r _=>r=v):sq P C f aS v:=JO hp hz hv (h [])
theorem sq.eq {f:FuncId} {aS caps args:List AV} {v:AV} (h:sq P C f aS v) (base:Nat) (H:ae) (ha:(args++caps).mapM (aI H 0 6)=some aS) (K:AV→ae→Prop):aF P C base (.fn f caps) args H K=K v H:=by
 obtain ⟨hp,hz,hv,n,H1,hn⟩:=h
 have hc:dA P C (n+1) base (.fn f caps) args H=some (v,H):=by simp only [dA,hp,hz,ha];rw [hn];simp [hv]
 apply propext
 constructor
 ·rintro ⟨m,v',H',h1,h2⟩
  have e1:=jd (Nat.le_max_left (n+1) m) hc
  have e2:=jd (Nat.le_max_right (n+1) m) h1
  rw [e1] at e2
  simp only [Option.some.injEq,Prod.mk.injEq] at e2
  obtain ⟨rfl,rfl⟩:=e2
  exact h2
 ·intro h2;exact ⟨n+1,v,H,hc,h2⟩
theorem dq {H:ae} {k d:Nat}:∀{l:List AV},AV.closeds l=true→l.mapM (aI H k d)=some l
 | [],_=>rfl
 | v::l,h=>by
  simp only [AV.closeds,Bool.and_eq_true] at h
  have h1:aI H k d v=some v:=by cases d<;>simp [aI,h.1]
  rw [List.mapM_cons,h1,dq h.2];rfl
theorem sq.ret {f:FuncId} {args:List AV} {v:AV} (h:sq P C f args v) (ha:AV.closeds args=true):b8 P C f [] args v:=by
 intro base H
 obtain ⟨hp,hz,hv,n,H1,hn⟩:=h
 exact ⟨n+1,by simp only [dA,hp,hz,List.append_nil,dq ha];rw [hn];simp [hv]⟩
@[simp] theorem LG (H:ae) (k d:Nat) (i:IntKind) (n:Int):aI H k d (.int i n)=some (.int i n):=by cases d<;>simp [aI,AV.closed]
@[simp] theorem js (H:ae) (k d:Nat) (b:Bool):aI H k d (.bool b)=some (.bool b):=by cases d<;>simp [aI,AV.closed]
@[simp] theorem kc (H:ae) (k d:Nat) (b:List UInt8):aI H k d (.str b)=some (.str b):=by cases d<;>simp [aI,AV.closed]
@[simp] theorem KC (H:ae) (k d:Nat):aI H k d .nils=some .nils:=by cases d<;>simp [aI,AV.closed]
theorem ak {H:ae} {k d:Nat} {v:AV} (h:v.closed=true):aI H k d v=some v:=by cases d<;>simp [aI,h]
theorem A7 {H:ae} {k d:Nat} {vs ws:List AV} (h:vs.mapM (aI H k d)=some ws):aI H k (d+1) (.tup vs)=some (.tup ws):=by
 unfold aI
 by_cases hc:AV.closeds vs=true
 ·rw [if_pos (by simpa [AV.closed] using hc)]
  rw [dq hc] at h;cases h;rfl
 ·rw [if_neg (by simpa [AV.closed] using hc)];simp [h]
theorem je {H:ae} {k d:Nat} {vs ws:List AV} (h:vs.mapM (aI H k d)=some ws):aI H k (d+1) (.agg vs)=some (.agg ws):=by
 unfold aI
 by_cases hc:AV.closeds vs=true
 ·rw [if_pos (by simpa [AV.closed] using hc)]
  rw [dq hc] at h;cases h;rfl
 ·rw [if_neg (by simpa [AV.closed] using hc)];simp [h]
theorem bb {H:ae} {k d:Nat} {a b x y:AV} (ha:aI H k d a=some x) (hb:aI H k d b=some y):aI H k (d+1) (.tup [a,b])=some (.tup [x,y]):=A7 (by simp [ha,hb])
attribute [simp] fC iC
def ax (H:ae) (b g e i:Nat):Option (List AV) :=
 match H[b]? with
 | some (.rows e' g' rs)=>if g=g'∧e=e' then rs[i]? else none
 | _=>none
@[simp] theorem nB (H:ae) (t:TypeId) (b g e i f:Nat):i6 P H t (.ptr b g e i f)=(ax H b g e i).bind fun row=>fC P t (row.drop f):=by
 simp only [i6,mj,ax]
 cases H[b]? with
 | none=>rfl
 | some x =>
  cases x with
  | rows e' g' rs =>
   by_cases h:g=g'∧e=e'
   ·simp only [if_pos h];cases rs[i]?<;>rfl
   ·simp only [if_neg h];rfl
  | _=>rfl
@[simp] theorem M8 (H:ae) (t:TypeId) (c:List AV):i6 P H t (.eptr c)=fC P t c:=by simp only [i6,mj,Option.bind_some]
theorem gC {H:ae} {b g e i:Nat} {rs:List (List AV)} (h:H[b]?=some (.rows e g rs)):ax H b g e i=rs[i]?:=by simp [ax,h]
@[simp] theorem td (H L:ae) (g e i k:Nat):ax (H++L) (H.length+k) g e i=ax L k g e i:=by simp only [ax,bq]
@[simp] theorem Ks (H L:ae) (g e i:Nat):ax (H++L) H.length g e i=ax L 0 g e i:=td H L g e i 0
@[simp] theorem Ku (g e i:Nat) (rs:List (List AV)) (L:ae):ax (.rows e g rs::L) 0 g e i=rs[i]?:=by simp [ax]
@[simp] theorem Kt (g e i k:Nat) (b:bL) (L:ae):ax (b::L) (k+1) g e i=ax L k g e i:=by simp [ax]
section bin
variable (t:TypeId) (k:IntKind) (a b:Int) (x y:List UInt8) (p q:Bool)
@[simp] theorem ID:bP P C .add t (.int k a) (.int k b)=some (.int k (k.wrap (a+b))):=by simp [bP]
@[simp] theorem O4:bP P C .sub t (.int k a) (.int k b)=some (.int k (k.wrap (a-b))):=by simp [bP]
@[simp] theorem O1:bP P C .mul t (.int k a) (.int k b)=some (.int k (k.wrap (a*b))):=by simp [bP]
@[simp] theorem OW:bP P C .eql t (.int k a) (.int k b)=some (.bool (a==b)):=by simp [bP]
@[simp] theorem O3:bP P C .neq t (.int k a) (.int k b)=some (.bool (a != b)):=by simp [bP]
@[simp] theorem O0:bP P C .lss t (.int k a) (.int k b)=some (.bool (decide (a<b))):=by simp [bP]
@[simp] theorem OZ:bP P C .leq t (.int k a) (.int k b)=some (.bool (decide (a≤b))):=by simp [bP]
@[simp] theorem OY:bP P C .gtr t (.int k a) (.int k b)=some (.bool (decide (a > b))):=by simp [bP]
@[simp] theorem OX:bP P C .geq t (.int k a) (.int k b)=some (.bool (decide (a≥b))):=by simp [bP]
@[simp] theorem Ny:bP P C .eql t (.str x) (.str y)=some (.bool (x==y)):=by simp [bP]
@[simp] theorem Nz:bP P C .neq t (.str x) (.str y)=some (.bool (!(x==y))):=by simp [bP]
theorem gR (h:x.length+y.length≤9223372036854775807):bP P C .add t (.str x) (.str y)=some (.str (x++y)):=by
 simp only [bP];rw [if_pos (by omega)]
theorem xi (h:b≠0):bP P C .quo t (.int k a) (.int k b)=some (.int k (k.wrap (a.tdiv b))):=by simp [bP,h]
theorem pS (h:b≠0):bP P C .rem t (.int k a) (.int k b)=some (.int k (a.tmod b)):=by simp [bP,h]
@[simp] theorem QF:K4 .not (.bool p)=some (.bool !p):=Eq.trans rfl rfl
@[simp] theorem QE:K4 .neg (.int k a)=some (.int k (k.wrap (0-a))):=Eq.trans rfl rfl
end bin
theorem lc {t:TypeId} {len elem n:Nat} (h:P.underlying t=some (.array len elem)) (hn:br P elem=some n) (x ix:AV):aX P t x ix=(iC ix len).bind fun i=>bk x (i*n):=by
 simp only [aX,h,hn];cases iC ix len<;>rfl
theorem sI (K:IntKind) (k n:Nat):iC (.int K (k:Int)) n=if k<n then some k else none:=by
 simp only [iC];by_cases h:k<n
 ·rw [if_pos h,if_pos (by omega)];simp
 ·rw [if_neg h,if_neg (by omega)]
theorem aO {x:Int} (h1 : -9223372036854775808≤x) (h2:x≤9223372036854775807):IntKind.i64.wrap x=x:=IntWalk.i64_in x ⟨h1,h2⟩
theorem iV {k:Nat} (h:k≤9223372036854775807):IntKind.i64.wrap (k:Int)=k:=IntWalk.i64_in _ (by omega)
theorem au {k n:Nat} (h:k<n) (hn:n≤9223372036854775807):IntKind.i64.wrap ((k:Int)+1)=((k+1:Nat):Int):=IntWalk.i64_in _ (by omega)
end Go.Proofs.Ev
namespace Go.Proofs.Ev
variable {P:Program}
theorem bu {t:TypeId} {x:TypeInfo} (h:∀w,(typeInfo t).run P w=.ok x w):P.info? t=some x:=by
 have h:=h default
 cases hi:P.info? t with
 | none=>simp [typeInfo,hi,Sem.run,program,stuck] at h
 | some y =>
  simp [typeInfo,hi,Sem.run,program] at h
  rw [h]
theorem dx {t n:Nat} {x:TypeInfo} (h:P.info? t=some x) (hn:x.size=n):br P t=some n:=by rw [br,h,←hn];rfl
theorem pX {t n:Nat} {x:TypeInfo} (h:P.info? t=some x) (hn:x.bytes=n):bytesOf P t=some n:=by rw [bytesOf,h,←hn];rfl
def L1:TypeDesc→Bool | .struct _ | .array _ _=>true | _=>false
theorem dz {t:TypeId} {x:TypeDesc} {b:Bool} (h:P.underlying t=some x) (hb:L1 x=b):be P t=some b:=by
 rw [be,h,←hb];cases x<;>rfl
theorem cQ {t ft k n off:Nat} {fs:Array Field} {fd:Field} (h:P.underlying t=some (.struct fs)) (hf:fs[k]?=some fd) (ht:fd.type=ft) (hs:br P ft=some (n+1)) (ho:fd.offset=off) (x:AV):bB P t x k=bk x off:=by
 simp only [bB,h,hf,ht,hs,ho]
theorem Ja {t:TypeId} (h:P.underlying t=some .string) (H:ae) (l:List UInt8):fQ P H t (.str l)=some (.int .i64 l.length):=by simp only [fQ,h]
theorem iO {t e:TypeId} (h:P.underlying t=some (.slice e)) (H:ae) (r:List (List AV)) (x:Bool):fQ P H t (.lst r x)=some (.int .i64 r.length):=by simp only [fQ,h]
theorem pl {t e:TypeId} (h:P.underlying t=some (.slice e)) (H:ae) (b g s l n:Nat):fQ P H t (.sl b g s l n)=some (.int .i64 n):=by simp only [fQ,h]
theorem ph {t e:TypeId} {n:Nat} (h:P.underlying t=some (.slice e)) (hn:br P e=some n) (r:List (List AV)) (x:Bool) (ix:AV):aX P t (.lst r x) ix=(iC ix r.length).bind fun i=>(r[i]?).bind fun row=>if row.length=n then some (.eptr row) else none:=by
 simp only [aX,h,hn]
 cases iC ix r.length with
 | none=>rfl
 | some i=>cases h1:r[i]?<;>simp [h1]
theorem rQ {t e:TypeId} {n:Nat} (h:P.underlying t=some (.slice e)) (hn:br P e=some n) (b g s l m:Nat) (ix:AV):aX P t (.sl b g s l m) ix=if n=s then (iC ix m).map fun i=>.ptr b g s (l+i) 0 else none:=by
 simp only [aX,h,hn]
theorem L2 {t:TypeId} (h:P.underlying t=some .string) (l:List UInt8) (ix:AV):kZ P t (.str l) ix=(iC ix l.length).bind fun i=>(l[i]?).map fun b=>.int .u8 b.toNat:=by
 simp only [kZ,h];cases iC ix l.length<;>rfl
theorem pV {t:TypeId} {z:List AV} {fs:Array Field} (places:List (Nat×Nat)) (hz:aN P t=some (.agg z)) (h:P.underlying t=some (.struct fs))
 (hp:fs.toList.mapM (fun f=>(br P f.type).map fun s=>(f.offset,s))=some places) (ps:List (Nat×AV)):d5 P t ps=(aD (fun i=>places[i]?) z ps).map .agg:=by
 simp only [d5,hz,h,hp];rfl
theorem AK {t e n s:Nat} {z:List AV} (hz:aN P t=some (.agg z)) (h:P.underlying t=some (.array n e)) (hs:br P e=some s) (ps:List (Nat×AV)):d5 P t ps=(aD (fun i=>some (i*s,s)) z ps).map .agg:=by
 simp only [d5,hz,h,hs];rfl
end Go.Proofs.Ev
namespace Go.Proofs.Ev
def dig (l:List Nat):List AV:=l.map fun (n:Nat)=>AV.int .u8 (n:Int)
@[simp] theorem O6 (l:List Nat):(dig l).length=l.length:=by simp [dig]
@[simp] theorem NK (l:List Nat):(dig l).all AV.leaf=true:=by simp [dig]
theorem CE {l:List Nat} {k:Nat} (h:k<l.length):((dig l).drop k).head?=some (.int .u8 l[k]):=by simp [dig,List.head?_drop,h]
inductive SK where | nil | exact | loose
 deriving DecidableEq
def am (k:SK) (rows:List (List AV)):AV:=match k,rows with
 | .nil,[]=>.nils
 | .exact,rows=>.lst rows true
 | _,rows=>.lst rows false
@[simp] theorem lQ (k:SK) (rows:List (List AV)):(am k rows).leaf=true:=by cases k<;>cases rows<;>rfl
@[simp] theorem Ml (k:SK) (rows:List (List AV)):(am k rows).cells=[am k rows]:=by cases k<;>cases rows<;>rfl
theorem mC (k:SK) (rows:List (List AV)):∃e,(am k rows).denil=.lst rows e:=by cases k<;>cases rows<;>exact ⟨_,rfl⟩
theorem gq {P:Program} {t e:TypeId} (h:P.underlying t=some (.slice e)) (H:ae) (k:SK) (rows:List (List AV)):fQ P H t (am k rows).denil=some (.int .i64 rows.length):=by
 obtain ⟨x,hx⟩:=mC k rows;rw [hx,iO h]
theorem iN {P:Program} {t e:TypeId} {n:Nat} (h:P.underlying t=some (.slice e)) (hn:br P e=some n) (k:SK) (rows:List (List AV)) (ix:AV):aX P t (am k rows) ix=(iC ix rows.length).bind fun i=>(rows[i]?).bind fun row=>if row.length=n then some (.eptr row) else none:=by
 cases rows with
 | nil =>
  have h0:iC ix 0=none:=by
   cases ix with
   | int K i=>simp only [iC];rw [if_neg (by omega)]
   | _=>rfl
  have e0:∀x,aX P t (.lst [] x) ix=none:=fun x=>by rw [ph h hn];show (iC ix 0).bind _=none;rw [h0];rfl
  have e1:aX P t .nils ix=none:=by simp only [aX,h,hn]
  show _=(iC ix 0).bind _
  rw [h0]
  cases k
  ·exact e1
  ·exact e0 _
  ·exact e0 _
 | cons r rows=>cases k<;>simp only [am]<;>rw [ph h hn]
structure aC where
 d:List Nat
 n:Int
 h:d.length=32
 b:∀x∈d,x<256
def aC.cells (x:aC):List AV:=dig x.d++[.int .i64 x.n]
@[simp] theorem aC.len (x:aC):x.cells.length=33:=by simp [aC.cells,x.h]
@[simp] theorem aC.leafs (x:aC):x.cells.all AV.leaf=true:=by simp [aC.cells]
@[simp] theorem aC.dig (x:aC):x.cells.take 32=Ev.dig x.d:=by
 unfold aC.cells;rw [List.take_append_of_le_length (by simp [x.h])];exact List.take_of_length_le (by simp [x.h])
@[simp] theorem aC.num (x:aC):x.cells.drop 32=[.int .i64 x.n]:=by
 unfold aC.cells;rw [List.drop_append_of_le_length (by simp [x.h]),List.drop_of_length_le (by simp [x.h])];rfl
@[simp] theorem aC.num1 (x:aC):x.cells[32]?=some (.int .i64 x.n):=by
 rw [←List.head?_drop,x.num];rfl
def aJ:List Nat:=List.replicate 32 0
def aM:aC:=⟨aJ,0,by decide,by decide⟩
theorem cO {l:List AV} {k:Nat} {v:AV} (h:l[k]?=some v) (hk:k<l.length):l[k]=v:=by
 rw [List.getElem?_eq_getElem hk] at h;exact Option.some.inj h
@[simp] theorem aC.num2 (x:aC) (h:32<x.cells.length):x.cells[32]=.int .i64 x.n:=cO x.num1 h
@[simp] theorem aC.take33 (x:aC):x.cells.take 33=x.cells:=List.take_of_length_le (by simp)
@[simp] theorem aC.drop33 (x:aC):x.cells.drop 33=[]:=List.drop_of_length_le (by simp)
theorem cK {a b:List AV} {n m:Nat} (h:a.length=n) (hm:n≤m):(a++b).drop m=b.drop (m-n):=by
 subst h
 rw [List.drop_append,List.drop_of_length_le hm,List.nil_append]
theorem cX:∀(a b:List AV),AV.closeds (a++b)=(AV.closeds a&&AV.closeds b)
 | [],b=>by simp [AV.closeds]
 | x::a,b=>by simp [AV.closeds,cX a b,Bool.and_assoc]
theorem gg (l:List Nat):AV.closeds (dig l)=true:=by
 induction l with
 | nil=>rfl
 | cons a l ih=>simp only [dig,List.map_cons,AV.closeds,AV.closed,Bool.true_and];exact ih
@[simp] theorem aC.closed (x:aC):AV.closeds x.cells=true:=by simp [aC.cells,cX,gg,AV.closeds,AV.closed]
theorem aH {α:Type} {f:α→List AV} (h:∀x,AV.closeds (f x)=true):∀l:List α,AV.closedss (l.map f)=true
 | []=>rfl
 | x::l=>by simp [AV.closedss,h x,aH h l]
theorem bI {k:SK} {rows:List (List AV)} (h:AV.closedss rows=true):(am k rows).closed=true:=by
 cases k<;>cases rows<;>simp_all [am,AV.closed,AV.closedss]
theorem fE (l:List Nat):di (List.replicate l.length (.int .u8)) (dig l)=true:=by
 induction l with
 | nil=>rfl
 | cons a l ih =>
  simp only [List.length_cons,List.replicate_succ,dig,List.map_cons,di]
  rw [show (List.map (fun (n:Nat)=>AV.int .u8 (n:Int)) l)=dig l from rfl,ih];rfl
theorem jq:∀(a b:List Nat),a.length=b.length→bS (dig a) (dig b)=decide (a=b)
 | [],[],_=>rfl
 | x::a,y::b,h=>by
  simp only [dig,List.map_cons,bS,m6]
  have ih:=jq a b (by simpa using h)
  simp only [dig] at ih
  rw [ih]
  by_cases h1:x=y
  ·subst h1;simp
  ·have:((x:Int)==(y:Int))=false:=by simp;omega
   rw [this];simp [h1]
end Go.Proofs.Ev
