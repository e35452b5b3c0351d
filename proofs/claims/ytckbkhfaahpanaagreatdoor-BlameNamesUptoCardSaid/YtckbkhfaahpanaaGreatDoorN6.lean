/- Part 6 of the proof that quiltlaw38.BlameNames returns true: no statement of its own. -/
import Derived.Test.YtckbkhfaahpanaaGreatDoorN5
set_option linter.all false
namespace Go.Proofs.Ev
section
variable (P:Program) (C:Cfg) (N base:Nat)
def RangeW (g:Operand) (ps:Array Tmp) (assign body:Code) (s:Sl) (H:Heap) (Q:Post):Prop :=
 ∀l,Rep N l s→∃n e l' s' H',codeA P C n base (.rangeFunc g ps assign body) l H=some (e,l',H')∧Rep N l' s'∧Q e s' H'
def wpC:Code→Sl→Heap→Post→Prop
 | .skip,s,H,Q=>Q .normal s H
 | .label _,s,H,Q=>Q .normal s H
 | .ret,s,H,Q=>Q .ret s H
 | .exit id,s,H,Q=>Q (.exit id) s H
 | .seq a b,s,H,Q=>wpC a s H (seqQ (wpC b) Q)
 | .cond x a b,s,H,Q=>condW (valF s x) (wpC a s H Q) (wpC b s H Q)
 | .block id b,s,H,Q=>wpC b s H (blockQ id Q)
 | .loop b,s,H,Q=>LoopW (wpC b) s H Q
 | .region _ ops false,s,H,Q=>wpOps P C N base ops ops.toList s H (Q .normal)
 | .region _ ops true,s,H,Q=>wpOpsU P C N base ops 0 ops.toList s H (Q .normal)
 | .rangeFunc g ps assign body,s,H,Q=>RangeW P C N base g ps assign body s H Q
 | _,_,_,_=>False
end
def statC (P:Program):Code→Bool
 | .seq a b=>statC P a&&statC P b
 | .cond _ a b=>statC P a&&statC P b
 | .block _ b=>statC P b
 | .loop b=>statC P b
 | .region _ ops true=>statB P ops
 | _=>true
variable {P:Program} {C:Cfg} {N base:Nat}
theorem wpOpsU_mono {ops:Array Oper} {Q Q':Sl→Heap→Prop} (hq:∀s H,Q s H→Q' s H):∀{os:List Oper} {i:Nat} {s:Sl} {H:Heap},wpOpsU P C N base ops i os s H Q→wpOpsU P C N base ops i os s H Q'
 | [],_,s,H,h=>hq s H h
 | _::_,_,_,_,h=>⟨h.1,wpStep_mono h.2 fun _ _ h=>⟨h.1,wpOpsU_mono hq h.2⟩⟩
theorem loopN_sound {b:Code} (ih:∀{s:Sl} {H:Heap} {Q:Post},wpC P C N base b s H Q→∀{l:List AV},Rep N l s→∃n e l' s' H',codeA P C n base b l H=some (e,l',H')∧Rep N l' s'∧Q e s' H') {Q:Post} :
 ∀{k:Nat} {s:Sl} {H:Heap},loopN (wpC P C N base b) Q k s H→∀{l:List AV},Rep N l s→∃n e l' s' H',codeA P C n base (.loop b) l H=some (e,l',H')∧Rep N l' s'∧Q e s' H'
 | 0,_,_,h,_,_=>h.elim
 | k+1,s,H,h,l,hr=>by
  unfold loopN at h
  obtain ⟨n,e,l',s',H',h1,h2,h3⟩:=ih h hr
  cases e with
  | normal =>
   obtain ⟨m,e,l2,s2,H2,h4,h5,h6⟩:=loopN_sound ih h3 h2
   refine ⟨n+m+1,e,l2,s2,H2,?_,h5,h6⟩
   rw [codeA_loop,codeA_mono (Nat.le_add_right n m) h1]
   exact codeA_mono (Nat.le_add_left m n) h4
  | exit i=>exact ⟨n+1,.exit i,l',s',H',by rw [codeA_loop,h1],h2,h3⟩
  | ret=>exact ⟨n+1,.ret,l',s',H',by rw [codeA_loop,h1],h2,h3⟩
theorem wpC_sound:∀{c:Code} {s:Sl} {H:Heap} {Q:Post},statC P c=true→wpC P C N base c s H Q→∀{l:List AV},Rep N l s→∃n e l' s' H',codeA P C n base c l H=some (e,l',H')∧Rep N l' s'∧Q e s' H'
 | .skip,s,H,_,hst,h,l,hr=>⟨1,.normal,l,s,H,by simp only [codeA],hr,h⟩
 | .label _,s,H,_,hst,h,l,hr=>⟨1,.normal,l,s,H,by simp only [codeA],hr,h⟩
 | .ret,s,H,_,hst,h,l,hr=>⟨1,.ret,l,s,H,by simp only [codeA],hr,h⟩
 | .exit i,s,H,_,hst,h,l,hr=>⟨1,.exit i,l,s,H,by simp only [codeA],hr,h⟩
 | .seq a b,s,H,Q,hst,h,l,hr=>by
  unfold wpC at h
  simp only [statC,Bool.and_eq_true] at hst
  obtain ⟨n,e,l',s',H',h1,h2,h3⟩:=wpC_sound hst.1 h hr
  cases e with
  | normal =>
   obtain ⟨m,e,l2,s2,H2,h4,h5,h6⟩:=wpC_sound hst.2 h3 h2
   refine ⟨n+m+1,e,l2,s2,H2,?_,h5,h6⟩
   simp only [codeA]
   rw [codeA_mono (Nat.le_add_right n m) h1]
   exact codeA_mono (Nat.le_add_left m n) h4
  | exit i=>exact ⟨n+1,.exit i,l',s',H',by simp only [codeA];rw [h1],h2,h3⟩
  | ret=>exact ⟨n+1,.ret,l',s',H',by simp only [codeA];rw [h1],h2,h3⟩
 | .cond x a b,s,H,Q,hst,h,l,hr=>by
  unfold wpC condW at h
  simp only [statC,Bool.and_eq_true] at hst
  split at h
  ·rename_i hx
   obtain ⟨n,e,l',s',H',h1,h2,h3⟩:=wpC_sound hst.1 h hr
   exact ⟨n+1,e,l',s',H',by simp only [codeA];rw [hr.val,hx];exact h1,h2,h3⟩
  ·rename_i hx
   obtain ⟨n,e,l',s',H',h1,h2,h3⟩:=wpC_sound hst.2 h hr
   exact ⟨n+1,e,l',s',H',by simp only [codeA];rw [hr.val,hx];exact h1,h2,h3⟩
  ·exact h.elim
 | .block id b,s,H,Q,hst,h,l,hr=>by
  unfold wpC at h
  obtain ⟨n,e,l',s',H',h1,h2,h3⟩:=wpC_sound (c:=b) hst h hr
  cases e with
  | normal=>exact ⟨n+1,.normal,l',s',H',by simp only [codeA];rw [h1],h2,h3⟩
  | ret=>exact ⟨n+1,.ret,l',s',H',by simp only [codeA];rw [h1],h2,h3⟩
  | exit i =>
   simp only [blockQ] at h3
   by_cases hi:i=id
   ·rw [if_pos hi] at h3
    exact ⟨n+1,.normal,l',s',H',by simp only [codeA];rw [h1];simp [hi],h2,h3⟩
   ·rw [if_neg hi] at h3
    exact ⟨n+1,.exit i,l',s',H',by simp only [codeA];rw [h1];simp [hi],h2,h3⟩
 | .loop b,s,H,Q,hst,h,l,hr=>by
  unfold wpC at h
  obtain ⟨k,h⟩:=h
  exact loopN_sound (fun {s H Q} h {l} hr=>wpC_sound (c:=b) hst h hr) h hr
 | .region id ops false,s,H,Q,hst,h,l,hr=>by
  unfold wpC at h
  obtain ⟨n,l',s',H',h1,h2,h3⟩:=wpOps_sound h hr
  exact ⟨n+1,.normal,l',s',H',by simp only [codeA];rw [h1],h2,h3⟩
 | .region id ops true,s,H,Q,hst,h,l,hr=>by
  unfold wpC at h
  obtain ⟨n,tr,l',s',H',h1,h2,h3,h4⟩:=draw_rule hst h l hr
  exact ⟨n+1,.normal,l',s',H',by simp only [codeA];rw [h1];simp only;rw [if_pos h2],h3,h4⟩
 | .rangeFunc g ps assign body,s,H,Q,_,h,l,hr=>by unfold wpC at h;exact h l hr
 | .scope _,_,_,_,_,h,_,_=>h.elim
 | .goto _,_,_,_,_,h,_,_=>h.elim
 | .refuse _,_,_,_,_,h,_,_=>h.elim
theorem wpC_mono:∀{c:Code} {s:Sl} {H:Heap} {Q Q':Post},(∀e s H,Q e s H→Q' e s H)→wpC P C N base c s H Q→wpC P C N base c s H Q'
 | .skip,s,H,_,_,hq,h=>hq _ s H h
 | .label _,s,H,_,_,hq,h=>hq _ s H h
 | .ret,s,H,_,_,hq,h=>hq _ s H h
 | .exit i,s,H,_,_,hq,h=>hq _ s H h
 | .seq a b,s,H,Q,Q',hq,h=>by
  unfold wpC at h ⊢
  refine wpC_mono (fun e s H h=>?_) h
  cases e with
  | normal=>exact wpC_mono (c:=b) hq h
  | exit i=>exact hq _ _ _ h
  | ret=>exact hq _ _ _ h
 | .cond x a b,s,H,Q,Q',hq,h=>by
  unfold wpC condW at h ⊢
  split at h
  ·exact wpC_mono hq h
  ·exact wpC_mono hq h
  ·exact h.elim
 | .block id b,s,H,Q,Q',hq,h=>by
  unfold wpC at h ⊢
  refine wpC_mono (fun e s H h=>?_) h
  cases e with
  | normal=>exact hq _ _ _ h
  | exit i =>
   simp only [blockQ] at h ⊢
   by_cases hi:i=id
   ·rw [if_pos hi] at h ⊢;exact hq _ _ _ h
   ·rw [if_neg hi] at h ⊢;exact hq _ _ _ h
  | ret=>exact hq _ _ _ h
 | .loop b,s,H,Q,Q',hq,h=>by
  unfold wpC at h ⊢
  obtain ⟨k,h⟩:=h
  refine ⟨k,?_⟩
  induction k generalizing s H with
  | zero=>exact h
  | succ k ih =>
   unfold loopN at h ⊢
   refine wpC_mono (c:=b) (fun e s H h=>?_) h
   cases e with
   | normal=>exact ih _ _ h
   | exit i=>exact hq _ _ _ h
   | ret=>exact hq _ _ _ h
 | .region id ops false,s,H,Q,Q',hq,h=>by unfold wpC at h ⊢;exact wpOps_mono (hq _) h
 | .region id ops true,s,H,Q,Q',hq,h=>by
  unfold wpC at h ⊢
  exact wpOpsU_mono (hq _) h
 | .rangeFunc g ps assign body,s,H,Q,Q',hq,h=>by
  unfold wpC at h ⊢
  intro l hr
  obtain ⟨n,e,l',s',H',h1,h2,h3⟩:=h l hr
  exact ⟨n,e,l',s',H',h1,h2,hq _ _ _ h3⟩
 | .scope _,_,_,_,_,_,h=>h.elim
 | .goto _,_,_,_,_,_,h=>h.elim
 | .refuse _,_,_,_,_,_,h=>h.elim
theorem loop_rule {b:Code} {Q:Post} (I:Sl→Heap→Prop) (m:Sl→Heap→Nat) {s:Sl} {H:Heap} (h0:I s H)
 (hstep:∀s H,I s H→wpC P C N base b s H fun e s' H'=>match e with | .normal=>I s' H'∧m s' H'<m s H | .exit i=>Q (.exit i) s' H' | .ret=>Q .ret s' H') :
 LoopW (wpC P C N base b) s H Q:=by
 have key:∀(k:Nat) (s:Sl) (H:Heap),I s H→m s H<k→loopN (wpC P C N base b) Q k s H:=by
  intro k
  induction k with
  | zero=>intro s H _ h;omega
  | succ k ih =>
   intro s H hi hm
   unfold loopN
   refine wpC_mono (fun e s' H' h=>?_) (hstep s H hi)
   cases e with
   | normal=>exact ih s' H' h.1 (by have:=h.2;omega)
   | exit i=>exact h
   | ret=>exact h
 exact ⟨m s H+1,key _ _ _ h0 (by omega)⟩
def argS (args:List AV) (N:Nat):Sl:=fun t=>if t<args.length then args.getD t .undef else if t<N then .tup [] else .undef
theorem argS_rep {args:List AV} {N:Nat} (h:args.length≤N):Rep N (args++List.replicate (N-args.length) (.tup [])) (argS args N):=by
 refine ⟨by simp;omega,fun t=>?_⟩
 unfold argS
 rw [List.getD_eq_getElem?_getD]
 by_cases h1:t<args.length
 ·rw [if_pos h1,List.getElem?_append_left h1,List.getD_eq_getElem?_getD]
 ·rw [if_neg h1,List.getElem?_append_right (by omega)]
  by_cases h2:t<N
  ·rw [if_pos h2,List.getElem?_replicate,if_pos (by omega)];rfl
  ·rw [if_neg h2,List.getElem?_replicate,if_neg (by omega)];rfl
def resultsF (P:Program) (H:Heap) (s:Sl):List ResultVar→Option (List AV)
 | []=>some []
 | .tmp t::l=>(resultsF P H s l).map (s t::·)
 | .cell a t::l =>
  match loadA P H t (s a),resultsF P H s l with
  | some v,some vs=>some (v::vs)
  | _,_=>none
theorem Rep.results {l:List AV} {s:Sl} (h:Rep N l s) {H:Heap}:∀rs:List ResultVar,resultsA P H l rs=resultsF P H s rs
 | []=>rfl
 | .tmp t::rs=>by unfold resultsA resultsF;rw [h.results rs,h.2 t]
 | .cell a t::rs=>by unfold resultsA resultsF;rw [h.results rs,h.2 a];rfl
def retQ (P:Program) (rs:List ResultVar) (K:AV→Heap→Prop):Post:=fun e s H =>
 match e with
 | .exit _=>False
 | _=>match resultsF P H s rs with | some vs=>K (packA vs) H | none=>False
theorem func_rule {f:FuncId} {fn:Func} {c:Code} {args:List AV} {H:Heap} {K:AV→Heap→Prop} (hf:P.funcs[f]?=some fn) (hc:fn.body=some c) (hp:C.prim f=none) (hn:args.length≤fn.ntmps) (hst:statC P c=true)
 (h:wpC P C fn.ntmps base c (argS args fn.ntmps) H (retQ P fn.results.toList K)):FuncW P C base f args H K:=by
 obtain ⟨n,e,l',s',H',h1,h2,h3⟩:=wpC_sound hst h (argS_rep hn)
 unfold retQ at h3
 have key:∀vs,resultsF P H' s' fn.results.toList=some vs→(e=.normal∨e=.ret)→funcA P C (n+1) base f args H=some (packA vs,H'):=by
  intro vs hv he
  unfold funcA
  simp only [hp,hf,hc,h1]
  rcases he with rfl | rfl<;>simp [h2.results,hv]
 cases e with
 | exit i=>exact h3.elim
 | normal =>
  simp only at h3
  split at h3
  ·rename_i vs hv;exact ⟨n+1,_,H',key vs hv (.inl rfl),h3⟩
  ·exact h3.elim
 | ret =>
  simp only at h3
  split at h3
  ·rename_i vs hv;exact ⟨n+1,_,H',key vs hv (.inr rfl),h3⟩
  ·exact h3.elim
theorem call_rule {f:FuncId} {caps args:List AV} {H:Heap} {K:AV→Heap→Prop} (hp:C.pure f=false) (hz:C.frz f=false) (h:FuncW P C base f (args++caps) H K):CallW P C base (.fn f caps) args H K:=by
 obtain ⟨n,v,H',h1,h2⟩:=h
 exact ⟨n+1,v,H',by simp only [callA,hp,hz];exact h1,h2⟩
theorem pure_rule {f:FuncId} {caps args:List AV} {H:Heap} {K:AV→Heap→Prop} (hp:C.pure f=true)
 (h:FuncW P C H.length f (args++caps) H fun r H'=>∃r',freezeA H' H.length 3 r=some r'∧K r' H):CallW P C base (.fn f caps) args H K:=by
 obtain ⟨n,v,H',h1,r',h2,h3⟩:=h
 exact ⟨n+1,r',H,by simp only [callA,hp];rw [h1];simp [h2],h3⟩
end Go.Proofs.Ev
namespace Go.Proofs.Ev
variable {P:Program} {C:Cfg} {N base:Nat}
def LoopC (P:Program) (C:Cfg) (N base:Nat) (b:Code) (s:Sl) (H:Heap) (Q:Post):Prop:=LoopW (wpC P C N base b) s H Q
@[simp ↓] theorem wp_skip (s:Sl) (H:Heap) (Q:Post):wpC P C N base .skip s H Q=Q .normal s H:=Eq.trans rfl rfl
@[simp ↓] theorem wp_ret (s:Sl) (H:Heap) (Q:Post):wpC P C N base .ret s H Q=Q .ret s H:=Eq.trans rfl rfl
@[simp ↓] theorem wp_exit (i:Nat) (s:Sl) (H:Heap) (Q:Post):wpC P C N base (.exit i) s H Q=Q (.exit i) s H:=Eq.trans rfl rfl
@[simp ↓] theorem wp_seq (a b:Code) (s:Sl) (H:Heap) (Q:Post):wpC P C N base (.seq a b) s H Q=wpC P C N base a s H (seqQ (wpC P C N base b) Q):=Eq.trans rfl rfl
@[simp ↓] theorem wp_cond (x:Operand) (a b:Code) (s:Sl) (H:Heap) (Q:Post):wpC P C N base (.cond x a b) s H Q=condW (valF s x) (wpC P C N base a s H Q) (wpC P C N base b s H Q):=Eq.trans rfl rfl
@[simp ↓] theorem wp_block (i:Nat) (b:Code) (s:Sl) (H:Heap) (Q:Post):wpC P C N base (.block i b) s H Q=wpC P C N base b s H (blockQ i Q):=Eq.trans rfl rfl
@[simp ↓] theorem wp_loop (b:Code) (s:Sl) (H:Heap) (Q:Post):wpC P C N base (.loop b) s H Q=LoopC P C N base b s H Q:=Eq.trans rfl rfl
@[simp ↓] theorem wp_region (id:Nat) (ops:Array Oper) (s:Sl) (H:Heap) (Q:Post):wpC P C N base (.region id ops false) s H Q=wpOps P C N base ops ops.toList s H (Q .normal):=Eq.trans rfl rfl
@[simp ↓] theorem wp_draw (id:Nat) (ops:Array Oper) (s:Sl) (H:Heap) (Q:Post):wpC P C N base (.region id ops true) s H Q=wpOpsU P C N base ops 0 ops.toList s H (Q .normal):=Eq.trans rfl rfl
@[simp ↓] theorem seqQ_normal (W:Sl→Heap→Post→Prop) (Q:Post) (s:Sl) (H:Heap):seqQ W Q .normal s H=W s H Q:=Eq.trans rfl rfl
@[simp ↓] theorem seqQ_exit (W:Sl→Heap→Post→Prop) (Q:Post) (i:Nat) (s:Sl) (H:Heap):seqQ W Q (.exit i) s H=Q (.exit i) s H:=Eq.trans rfl rfl
@[simp ↓] theorem seqQ_ret (W:Sl→Heap→Post→Prop) (Q:Post) (s:Sl) (H:Heap):seqQ W Q .ret s H=Q .ret s H:=Eq.trans rfl rfl
@[simp ↓] theorem blockQ_normal (id:Nat) (Q:Post) (s:Sl) (H:Heap):blockQ id Q .normal s H=Q .normal s H:=Eq.trans rfl rfl
@[simp ↓] theorem blockQ_ret (id:Nat) (Q:Post) (s:Sl) (H:Heap):blockQ id Q .ret s H=Q .ret s H:=Eq.trans rfl rfl
@[simp ↓] theorem blockQ_exit (id i:Nat) (Q:Post) (s:Sl) (H:Heap):blockQ id Q (.exit i) s H=if i=id then Q .normal s H else Q (.exit i) s H:=Eq.trans rfl rfl
@[simp ↓] theorem retQ_normal (rs:List ResultVar) (K:AV→Heap→Prop) (s:Sl) (H:Heap):retQ P rs K .normal s H=match resultsF P H s rs with | some vs=>K (packA vs) H | none=>False:=Eq.trans rfl rfl
@[simp ↓] theorem retQ_ret (rs:List ResultVar) (K:AV→Heap→Prop) (s:Sl) (H:Heap):retQ P rs K .ret s H=match resultsF P H s rs with | some vs=>K (packA vs) H | none=>False:=Eq.trans rfl rfl
@[simp] theorem resultsF_nil (H:Heap) (s:Sl):resultsF P H s []=some []:=rfl
@[simp] theorem resultsF_tmp (H:Heap) (s:Sl) (t:Nat) (l:List ResultVar):resultsF P H s (.tmp t::l)=(resultsF P H s l).map (s t::·):=rfl
@[simp] theorem resultsF_cell (H:Heap) (s:Sl) (a t:Nat) (l:List ResultVar):resultsF P H s (.cell a t::l)=match loadA P H t (s a),resultsF P H s l with | some v,some vs=>some (v::vs) | _,_=>none:=rfl
@[simp] theorem packA_one (v:AV):packA [v]=v:=rfl
@[simp] theorem packA_two (v w:AV) (l:List AV):packA (v::w::l)=.tup (v::w::l):=rfl
@[simp] theorem packA_none:packA []=.tup []:=rfl
@[simp] theorem condW_true (A B:Prop):condW (.bool true) A B=A:=rfl
@[simp] theorem condW_false (A B:Prop):condW (.bool false) A B=B:=rfl
@[simp low] theorem condW_bool (b:Bool) (A B:Prop):condW (.bool b) A B=((b=true→A)∧(b=false→B)):=by cases b<;>simp
@[simp] theorem condW_dec (p:Prop) [Decidable p] (A B:Prop):condW (.bool (decide p)) A B=((p→A)∧(¬p→B)):=by rw [condW_bool];simp
@[simp] theorem condW_not (b:Bool) (A B:Prop):condW (.bool (!b)) A B=condW (.bool b) B A:=by cases b<;>rfl
@[simp] theorem condW_beq {α:Type} [BEq α] [LawfulBEq α] (x y:α) (A B:Prop):condW (.bool (x==y)) A B=((x=y→A)∧(¬x=y→B)):=by rw [condW_bool];simp
def kOps (P:Program) (C:Cfg) (N base:Nat) (ops:Array Oper) (l:List Oper) (d:Option Tmp) (s:Sl) (Q:Sl→Heap→Prop):AV→Heap→Prop:=fun v H'=>wpOps P C N base ops l (putF s d v) H' Q
@[simp ↓] theorem kOps_app (ops:Array Oper) (l:List Oper) (d:Option Tmp) (s:Sl) (Q:Sl→Heap→Prop) (v:AV) (H':Heap):kOps P C N base ops l d s Q v H'=wpOps P C N base ops l (putF s d v) H' Q:=Eq.trans rfl rfl
def kOpsU (P:Program) (C:Cfg) (N base:Nat) (ops:Array Oper) (i:Nat) (l:List Oper) (d:Option Tmp) (s:Sl) (H:Heap) (Q:Sl→Heap→Prop):AV→Heap→Prop:=fun v H'=>(looseB P ops i=true→H'=H)∧wpOpsU P C N base ops (i+1) l (putF s d v) H' Q
@[simp ↓] theorem kOpsU_app (ops:Array Oper) (i:Nat) (l:List Oper) (d:Option Tmp) (s:Sl) (H:Heap) (Q:Sl→Heap→Prop) (v:AV):kOpsU P C N base ops i l d s H Q v H=wpOpsU P C N base ops (i+1) l (putF s d v) H Q:=by simp [kOpsU]
theorem kOpsU_turn (ops:Array Oper) (i:Nat) (l:List Oper) (d:Option Tmp) (s:Sl) (H:Heap) (Q:Sl→Heap→Prop) (v:AV) (H':Heap) (h:looseB P ops i=false):kOpsU P C N base ops i l d s H Q v H'=wpOpsU P C N base ops (i+1) l (putF s d v) H' Q:=by simp [kOpsU,h]
@[simp ↓] theorem wpOps_nil (ops:Array Oper) (s:Sl) (H:Heap) (Q:Sl→Heap→Prop):wpOps P C N base ops [] s H Q=Q s H:=Eq.trans rfl rfl
@[simp ↓] theorem wpOps_cons (ops:Array Oper) (d:Option Tmp) (op:Op) (t:TypeId) (pos:String) (af:Array Edge) (l:List Oper) (s:Sl) (H:Heap) (Q:Sl→Heap→Prop) :
 wpOps P C N base ops (⟨d,op,t,pos,af,none⟩::l) s H Q=(dstOk N d∧wpOp P C base ⟨d,op,t,pos,af,none⟩ s H (kOps P C N base ops l d s Q)):=Eq.trans rfl rfl
def wantedV (v:AV) (w:Bool):Option Bool:=match v with | .bool b=>some (b==w) | .undef=>none | _=>some false
def gstep (w:Option Bool) (W:(AV→Heap→Prop)→Prop) (H:Heap) (K:AV→Heap→Prop):Prop:=wantW w (K (.tup []) H) (W K)
def guardV (ops:Array Oper) (s:Sl) (g:Nat×Bool):Option Bool:=match (ops[g.1]?).bind (·.dst) with | some d=>wantedV (s d) g.2 | none=>some false
@[simp ↓] theorem wpOps_guard (ops:Array Oper) (d:Option Tmp) (op:Op) (t:TypeId) (pos:String) (af:Array Edge) (g:Nat×Bool) (l:List Oper) (s:Sl) (H:Heap) (Q:Sl→Heap→Prop) :
 wpOps P C N base ops (⟨d,op,t,pos,af,some g⟩::l) s H Q=(dstOk N d∧gstep (guardV ops s g) (fun K=>wpOp P C base ⟨d,op,t,pos,af,none⟩ s H K) H (kOps P C N base ops l d s Q)):=Eq.trans rfl rfl
@[simp ↓] theorem wpOpsU_nil (ops:Array Oper) (i:Nat) (s:Sl) (H:Heap) (Q:Sl→Heap→Prop):wpOpsU P C N base ops i [] s H Q=Q s H:=Eq.trans rfl rfl
@[simp ↓] theorem wpOpsU_cons (ops:Array Oper) (i:Nat) (d:Option Tmp) (op:Op) (t:TypeId) (pos:String) (af:Array Edge) (l:List Oper) (s:Sl) (H:Heap) (Q:Sl→Heap→Prop) :
 wpOpsU P C N base ops i (⟨d,op,t,pos,af,none⟩::l) s H Q=(dstOk N d∧wpOp P C base ⟨d,op,t,pos,af,none⟩ s H (kOpsU P C N base ops i l d s H Q)):=Eq.trans rfl rfl
@[simp ↓] theorem wpOpsU_guard (ops:Array Oper) (i:Nat) (d:Option Tmp) (op:Op) (t:TypeId) (pos:String) (af:Array Edge) (g:Nat×Bool) (l:List Oper) (s:Sl) (H:Heap) (Q:Sl→Heap→Prop) :
 wpOpsU P C N base ops i (⟨d,op,t,pos,af,some g⟩::l) s H Q=(dstOk N d∧gstep (guardV ops s g) (fun K=>wpOp P C base ⟨d,op,t,pos,af,none⟩ s H K) H (kOpsU P C N base ops i l d s H Q)):=Eq.trans rfl rfl
@[simp] theorem dstOk_some (d:Nat):dstOk N (some d)=(d<N):=rfl
@[simp] theorem dstOk_none:dstOk N none=True:=rfl
@[simp] theorem putF_some (s:Sl) (d:Nat) (v:AV):putF s (some d) v=upd s d v:=rfl
@[simp] theorem putF_none (s:Sl) (v:AV):putF s none v=s:=rfl
@[simp] theorem upd_eq (s:Sl) (d:Nat) (v:AV):upd s d v d=v:=if_pos rfl
@[simp] theorem upd_get (s:Sl) (d t:Nat) (v:AV):upd s d v t=if t=d then v else s t:=rfl
@[simp] theorem valF_tmp (s:Sl) (t:Nat):valF s (.tmp t)=s t:=rfl
@[simp] theorem valF_const (s:Sl) (v:Value):valF s (.const v)=ofValue v:=rfl
@[simp] theorem valF_func (s:Sl) (f:FuncId):valF s (.func f)=.fn f []:=rfl
@[simp] theorem ofValue_bool (b:Bool):ofValue (.bool b)=.bool b:=rfl
@[simp] theorem ofValue_int (k:IntKind) (n:Int):ofValue (.int k n)=.int k n:=rfl
@[simp] theorem ofValue_str (b:ByteArray):ofValue (.string b)=.str b.data.toList:=rfl
@[simp] theorem ofValue_nilp:ofValue (.pointer none)=.nilp:=rfl
@[simp] theorem ofValue_nils:ofValue (.slice none 0 0)=.nils:=rfl
@[simp] theorem ofValue_nilm:ofValue (.map none)=.nilm:=rfl
@[simp] theorem ofValue_nilf:ofValue .nilFunc=.nilf:=rfl
@[simp] theorem wantW_true (K A:Prop):wantW (some true) K A=A:=rfl
@[simp] theorem wantW_false (K A:Prop):wantW (some false) K A=K:=rfl
@[simp] theorem oget_some (v:AV) (H:Heap) (K:AV→Heap→Prop):(match (some (v,H):Option (AV×Heap)) with | some (v,H')=>K v H' | none=>False)=K v H:=rfl
section ops
variable (d:Option Tmp) (ty:TypeId) (pos:String) (af:Array Edge) (g:Option (Nat×Bool)) (s:Sl) (H:Heap) (K:AV→Heap→Prop)
def getW (r:Option (AV×Heap)) (K:AV→Heap→Prop):Prop:=match r with | some (v,H')=>K v H' | none=>False
@[simp] theorem getW_some (v:AV) (H:Heap) (K:AV→Heap→Prop):getW (some (v,H)) K=K v H:=rfl
def getV (r:Option AV) (H:Heap) (K:AV→Heap→Prop):Prop:=match r with | some v=>K v H | none=>False
@[simp] theorem getV_some (v:AV) (H:Heap) (K:AV→Heap→Prop):getV (some v) H K=K v H:=rfl
def getH (r:Option Heap) (K:AV→Heap→Prop):Prop:=match r with | some H=>K (.tup []) H | none=>False
@[simp] theorem getH_some (H:Heap) (K:AV→Heap→Prop):getH (some H) K=K (.tup []) H:=rfl
theorem getW_retV (r:Option AV):getW (retV H r) K=getV r H K:=by cases r<;>rfl
theorem getW_retU (r:Option Heap):getW (retU r) K=getH r K:=by cases r<;>rfl
@[simp] theorem getV_ite (c:Prop) [Decidable c] (a:AV):getV (if c then some a else none) H K=(c∧K a H):=by by_cases h:c<;>simp [h,getV]
@[simp] theorem getH_ite (c:Prop) [Decidable c] (a:Heap):getH (if c then some a else none) K=(c∧K (.tup []) a):=by by_cases h:c<;>simp [h,getH]
@[simp] theorem getW_ite (c:Prop) [Decidable c] (a:AV×Heap):getW (if c then some a else none) K=(c∧K a.1 a.2):=by by_cases h:c<;>simp [h,getW]
@[congr] theorem getV_congr {r r':Option AV} (H:Heap) (K:AV→Heap→Prop) (h:r=r'):getV r H K=getV r' H K:=by rw [h]
@[congr] theorem getW_congr {r r':Option (AV×Heap)} (K:AV→Heap→Prop) (h:r=r'):getW r K=getW r' K:=by rw [h]
@[congr] theorem getH_congr {r r':Option Heap} (K:AV→Heap→Prop) (h:r=r'):getH r K=getH r' K:=by rw [h]
theorem wpOp_op {o:Oper} (h:∀f args ats,o.op≠.call { callee:=.value f,args,argTypes:=ats }):wpOp P C base o s H K=getW (opA P C base H (valF s) o) K:=by
 unfold wpOp
 split
 ·rename_i f args ats e;exact absurd e (h f args ats)
 ·rfl
@[simp ↓] theorem op_move (x:Operand):wpOp P C base ⟨d,.move x,ty,pos,af,g⟩ s H K=K (valF s x) H:=Eq.trans rfl rfl
@[simp ↓] theorem op_assign (x:Operand):wpOp P C base ⟨d,.assign x,ty,pos,af,g⟩ s H K=K (valF s x) H:=Eq.trans rfl rfl
def pickV (c a b:AV):Option AV:=match c with | .bool t=>some (if t then a else b) | _=>none
@[simp ↓] theorem op_pick (c a b:Operand):wpOp P C base ⟨d,.pick c a b,ty,pos,af,g⟩ s H K=getV (pickV (valF s c) (valF s a) (valF s b)) H K:=by
 rw [wpOp_op (h:=by intro f args ats e;cases e)];simp only [opA,pickV];cases valF s c<;>rfl
@[simp ↓] theorem op_alloc (t:TypeId):wpOp P C base ⟨d,.alloc t,ty,pos,af,g⟩ s H K=getW (match ofZero P t with | some z=>if some z.cells.length=szOf P t then some (allocG H (tagG P t) z) else none | none=>none) K:=Eq.trans rfl rfl
@[simp ↓] theorem op_box (t:TypeId) (x:Operand):wpOp P C base ⟨d,.box t x,ty,pos,af,g⟩ s H K=getW (if (valF s x).cells.all AV.leaf then some (allocA H (valF s x)) else none) K:=Eq.trans rfl rfl
@[simp ↓] theorem op_build (t:TypeId) (ps:Array (Nat×Operand)):wpOp P C base ⟨d,.build t ps,ty,pos,af,g⟩ s H K=getV (buildA P t (ps.toList.map fun x=>(x.1,valF s x.2))) H K:=by
 rw [←getW_retV];rfl
@[simp ↓] theorem op_buildSlice (t:TypeId) (n:Nat) (ps:Array (Nat×Operand)):wpOp P C base ⟨d,.buildSlice t n ps,ty,pos,af,g⟩ s H K=getV (buildSliceA P t n (ps.toList.map fun x=>(x.1,valF s x.2))) H K:=by
 rw [←getW_retV];rfl
@[simp ↓] theorem op_load (t:TypeId) (a:Operand):wpOp P C base ⟨d,.load t a,ty,pos,af,g⟩ s H K=getV (loadA P H t (valF s a)) H K:=by rw [←getW_retV];rfl
@[simp ↓] theorem op_store (t:TypeId) (a x:Operand):wpOp P C base ⟨d,.store t a x,ty,pos,af,g⟩ s H K=getH (storeA P base H t (valF s a) (valF s x)) K:=by rw [←getW_retU];rfl
def nilW (v:AV) (H:Heap) (K:AV→Heap→Prop):Prop:=match v with | .ptr .. | .eptr _ | .fn ..=>K v H | _=>False
@[simp] theorem nilW_ptr (b g e i f:Nat):nilW (.ptr b g e i f) H K=K (.ptr b g e i f) H:=rfl
@[simp] theorem nilW_eptr (c:List AV):nilW (.eptr c) H K=K (.eptr c) H:=rfl
@[simp] theorem nilW_fn (f:FuncId) (c:List AV):nilW (.fn f c) H K=K (.fn f c) H:=rfl
@[simp ↓] theorem op_nilCheck (x:Operand):wpOp P C base ⟨d,.nilCheck x,ty,pos,af,g⟩ s H K=nilW (valF s x) H K:=by
 rw [wpOp_op (h:=by intro f args ats e;cases e)];simp only [opA,nilW];cases valF s x<;>rfl
@[simp ↓] theorem op_bin (op:BinOp) (t u:TypeId) (x y:Operand):wpOp P C base ⟨d,.binOp op t x y u,ty,pos,af,g⟩ s H K=getV (binA P C op t (valF s x) (valF s y)) H K:=by rw [←getW_retV];rfl
@[simp ↓] theorem op_un (op:UnOp) (t:TypeId) (x:Operand):wpOp P C base ⟨d,.unOp op t x,ty,pos,af,g⟩ s H K=getV (unA op (valF s x)) H K:=by rw [←getW_retV];rfl
@[simp ↓] theorem op_convert (a b:TypeId) (x:Operand):wpOp P C base ⟨d,.convert a b x,ty,pos,af,g⟩ s H K=getW (convertA P H a b (valF s x).denil) K:=Eq.trans rfl rfl
@[simp ↓] theorem op_makeFunc (f:FuncId) (caps:Array Operand):wpOp P C base ⟨d,.makeFunc (.func f) #[] caps,ty,pos,af,g⟩ s H K=K (.fn f (caps.toList.map (valF s))) H:=Eq.trans rfl rfl
@[simp ↓] theorem op_makeMap (t:TypeId):wpOp P C base ⟨d,.makeMap t none,ty,pos,af,g⟩ s H K=K (.map H.length) (H++[.map []]):=Eq.trans rfl rfl
@[simp ↓] theorem op_slice (t:TypeId) (x:Operand) (lo hi mx:Option Operand):wpOp P C base ⟨d,.slice t x lo hi mx,ty,pos,af,g⟩ s H K=getV (sliceA P t (valF s x).denil (lo.map (valF s)) (hi.map (valF s)) (mx.map (valF s))) H K:=by rw [←getW_retV];rfl
@[simp ↓] theorem op_fieldAddr (t:TypeId) (x:Operand) (f:Nat):wpOp P C base ⟨d,.fieldAddr t x f,ty,pos,af,g⟩ s H K=getV (fieldA P t (valF s x) f) H K:=by rw [←getW_retV];rfl
@[simp ↓] theorem op_indexAddr (t:TypeId) (x i:Operand):wpOp P C base ⟨d,.indexAddr t x i,ty,pos,af,g⟩ s H K=getV (indexAddrA P t (valF s x) (valF s i)) H K:=by rw [←getW_retV];rfl
@[simp ↓] theorem op_index (t:TypeId) (x i:Operand):wpOp P C base ⟨d,.index t x i,ty,pos,af,g⟩ s H K=getV (indexA P t (valF s x).denil (valF s i)) H K:=by rw [←getW_retV];rfl
@[simp ↓] theorem op_lookup (t:TypeId) (m k:Operand) (ok:Bool):wpOp P C base ⟨d,.lookup t m k ok,ty,pos,af,g⟩ s H K=getV (lookupA P C H t (valF s m) (valF s k) ok) H K:=by rw [←getW_retV];rfl
@[simp ↓] theorem op_mapUpdate (t:TypeId) (m k x:Operand):wpOp P C base ⟨d,.mapUpdate t m k x,ty,pos,af,g⟩ s H K=getH (updateA P C base H t (valF s m) (valF s k) (valF s x)) K:=by rw [←getW_retU];rfl
@[simp ↓] theorem op_insert (t:TypeId) (m k x:Operand):wpOp P C base ⟨d,.insert t m k x,ty,pos,af,g⟩ s H K=getH (updateA P C base H t (valF s m) (valF s k) (valF s x)) K:=by rw [←getW_retU];rfl
def extractW (v:AV) (i:Nat) (H:Heap) (K:AV→Heap→Prop):Prop:=match v with | .tup vs=>getV (vs[i]?) H K | _=>False
@[simp] theorem extractW_tup (vs:List AV) (i:Nat):extractW (.tup vs) i H K=getV (vs[i]?) H K:=rfl
@[simp ↓] theorem op_extract (x:Operand) (i:Nat):wpOp P C base ⟨d,.extract x i,ty,pos,af,g⟩ s H K=extractW (valF s x) i H K:=by
 rw [wpOp_op (h:=by intro f args ats e;cases e)];simp only [opA,extractW];cases valF s x<;>first | rfl | (simp only [getW_retV])
@[simp ↓] theorem op_len (x:Operand) (t:TypeId):wpOp P C base ⟨d,.call ⟨.builtin .len,#[x],#[t]⟩,ty,pos,af,g⟩ s H K=getV (lenA P H t (valF s x).denil) H K:=by rw [←getW_retV];rfl
@[simp ↓] theorem op_clear (x:Operand) (t:TypeId):wpOp P C base ⟨d,.call ⟨.builtin .clear,#[x],#[t]⟩,ty,pos,af,g⟩ s H K=getW (retU (clearA P base H t (valF s x).denil)) K:=Eq.trans rfl rfl
@[simp ↓] theorem op_append (x y:Operand) (ts:Array TypeId):wpOp P C base ⟨d,.call ⟨.builtin .append,#[x,y],ts⟩,ty,pos,af,g⟩ s H K=getW (appendA P base H ts (valF s x).denil (valF s y).denil) K:=Eq.trans rfl rfl
@[simp ↓] theorem op_call (f:Operand) (args:Array Operand) (ts:Array TypeId):wpOp P C base ⟨d,.call ⟨.value f,args,ts⟩,ty,pos,af,g⟩ s H K=CallW P C base (valF s f) (args.toList.map (valF s)) H K:=Eq.trans rfl rfl
def gstepB (c:Bool) (W:(AV→Heap→Prop)→Prop) (H:Heap) (K:AV→Heap→Prop):Prop:=gstep (some c) W H K
@[simp] theorem gstep_some (c:Bool) (W:(AV→Heap→Prop)→Prop):gstep (some c) W H K=gstepB c W H K:=rfl
@[congr] theorem gstepB_congr {c c':Bool} {W W':(AV→Heap→Prop)→Prop} (H:Heap) (K:AV→Heap→Prop) (h:c=c') (hW:c'=true→∀K,W K=W' K):gstepB c W H K=gstepB c' W' H K:=by
 subst h
 cases c with
 | false=>rfl
 | true=>exact hW rfl K
@[simp] theorem gstepB_false (W:(AV→Heap→Prop)→Prop):gstepB false W H K=K (.tup []) H:=Eq.trans rfl rfl
def gval (w:Option Bool) (r:Option AV):Option AV:=match w with | some true=>r | some false=>some (.tup []) | none=>none
def pif (p:Bool) (a b:AV):AV:=match p with | true=>a | false=>b
@[congr] theorem pif_congr {p q:Bool} {a a' b b':AV} (h:p=q) (h1:q=true→a=a') (h2:q=false→b=b'):pif p a b=pif q a' b':=by
 subst h;cases p<;>simp [pif,h1,h2]
@[simp] theorem pif_true (a b:AV):pif true a b=a:=Eq.trans rfl rfl
@[simp] theorem pif_false (a b:AV):pif false a b=b:=Eq.trans rfl rfl
@[simp] theorem pif_self (p:Bool) (a:AV):pif p a a=a:=by cases p<;>rfl
@[simp] theorem pif_and (p a:Bool):pif p (.bool a) (.bool false)=.bool (p&&a):=by cases p<;>cases a<;>rfl
@[simp] theorem pif_or (p a:Bool):pif p (.bool true) (.bool a)=.bool (p||a):=by cases p<;>cases a<;>rfl
def gif (p:Bool) (r:Option AV):Option AV:=match p with | true=>r | false=>some (.tup [])
@[congr] theorem gif_congr {p q:Bool} {r r':Option AV} (h:p=q) (h1:q=true→r=r'):gif p r=gif q r':=by
 subst h;cases p<;>simp [gif,h1]
@[simp] theorem gif_true (r:Option AV):gif true r=r:=Eq.trans rfl rfl
@[simp] theorem gif_false (r:Option AV):gif false r=some (.tup []):=Eq.trans rfl rfl
@[simp] theorem gif_some (p:Bool) (v:AV):gif p (some v)=some (pif p v (.tup [])):=by cases p<;>rfl
@[simp] theorem gval_some (c:Bool) (r:Option AV):gval (some c) r=gif c r:=by cases c<;>rfl
@[simp] theorem pickV_bool (t:Bool) (a b:AV):pickV (.bool t) a b=some (pif t a b):=by cases t<;>rfl
@[simp] theorem gstepB_val (c:Bool) (v:AV):gstepB c (fun K=>K v H) H K=K (pif c v (.tup [])) H:=by cases c<;>rfl
theorem gstep_getV (w:Option Bool) (r:Option AV):gstep w (fun K=>getV r H K) H K=getV (gval w r) H K:=by
 rcases w with _ | _ | _<;>rfl
@[simp ↓] theorem gop_move (w:Option Bool) (x:Operand):gstep w (fun K=>wpOp P C base ⟨d,.move x,ty,pos,af,g⟩ s H K) H K=getV (gval w (some (valF s x))) H K:=by rw [←gstep_getV];rfl
@[simp ↓] theorem gop_pick (w:Option Bool) (c a b:Operand):gstep w (fun K=>wpOp P C base ⟨d,.pick c a b,ty,pos,af,g⟩ s H K) H K=getV (gval w (pickV (valF s c) (valF s a) (valF s b))) H K:=by rw [←gstep_getV];congr 1;funext K;rw [op_pick]
@[simp ↓] theorem gop_bin (w:Option Bool) (op:BinOp) (t u:TypeId) (x y:Operand):gstep w (fun K=>wpOp P C base ⟨d,.binOp op t x y u,ty,pos,af,g⟩ s H K) H K=getV (gval w (binA P C op t (valF s x) (valF s y))) H K:=by rw [←gstep_getV];congr 1;funext K;rw [op_bin]
@[simp ↓] theorem gop_un (w:Option Bool) (op:UnOp) (t:TypeId) (x:Operand):gstep w (fun K=>wpOp P C base ⟨d,.unOp op t x,ty,pos,af,g⟩ s H K) H K=getV (gval w (unA op (valF s x))) H K:=by rw [←gstep_getV];congr 1;funext K;rw [op_un]
@[simp ↓] theorem gop_load (w:Option Bool) (t:TypeId) (x:Operand):gstep w (fun K=>wpOp P C base ⟨d,.load t x,ty,pos,af,g⟩ s H K) H K=getV (gval w (loadA P H t (valF s x))) H K:=by rw [←gstep_getV];congr 1;funext K;rw [op_load]
@[simp ↓] theorem gop_field (w:Option Bool) (t:TypeId) (x:Operand) (f:Nat):gstep w (fun K=>wpOp P C base ⟨d,.fieldAddr t x f,ty,pos,af,g⟩ s H K) H K=getV (gval w (fieldA P t (valF s x) f)) H K:=by rw [←gstep_getV];congr 1;funext K;rw [op_fieldAddr]
@[simp ↓] theorem gop_iaddr (w:Option Bool) (t:TypeId) (x i:Operand):gstep w (fun K=>wpOp P C base ⟨d,.indexAddr t x i,ty,pos,af,g⟩ s H K) H K=getV (gval w (indexAddrA P t (valF s x) (valF s i))) H K:=by rw [←gstep_getV];congr 1;funext K;rw [op_indexAddr]
@[simp ↓] theorem gop_index (w:Option Bool) (t:TypeId) (x i:Operand):gstep w (fun K=>wpOp P C base ⟨d,.index t x i,ty,pos,af,g⟩ s H K) H K=getV (gval w (indexA P t (valF s x).denil (valF s i))) H K:=by rw [←gstep_getV];congr 1;funext K;rw [op_index]
@[simp ↓] theorem gop_build (w:Option Bool) (t:TypeId) (ps:Array (Nat×Operand)):gstep w (fun K=>wpOp P C base ⟨d,.build t ps,ty,pos,af,g⟩ s H K) H K=getV (gval w (buildA P t (ps.toList.map fun x=>(x.1,valF s x.2)))) H K:=by rw [←gstep_getV];congr 1;funext K;rw [op_build]
@[simp ↓] theorem gop_lookup (w:Option Bool) (t:TypeId) (m k:Operand) (ok:Bool):gstep w (fun K=>wpOp P C base ⟨d,.lookup t m k ok,ty,pos,af,g⟩ s H K) H K=getV (gval w (lookupA P C H t (valF s m) (valF s k) ok)) H K:=by rw [←gstep_getV];congr 1;funext K;rw [op_lookup]
@[simp ↓] theorem gop_len (w:Option Bool) (x:Operand) (t:TypeId):gstep w (fun K=>wpOp P C base ⟨d,.call ⟨.builtin .len,#[x],#[t]⟩,ty,pos,af,g⟩ s H K) H K=getV (gval w (lenA P H t (valF s x).denil)) H K:=by rw [←gstep_getV];congr 1;funext K;rw [op_len]
end ops
@[simp] theorem denil_agg (c:List AV):AV.denil (.agg c)=.agg c:=rfl
@[simp] theorem denil_str (c:List UInt8):AV.denil (.str c)=.str c:=rfl
@[simp] theorem denil_lst (c:List (List AV)) (e:Bool):AV.denil (.lst c e)=.lst c e:=rfl
@[simp] theorem denil_int (k:IntKind) (n:Int):AV.denil (.int k n)=.int k n:=rfl
@[simp] theorem denil_nils:AV.denil .nils=.lst [] true:=rfl
@[simp] theorem denil_nilm:AV.denil .nilm=.nilm:=rfl
@[simp] theorem denil_map (b:Nat):AV.denil (.map b)=.map b:=rfl
@[simp] theorem denil_sl (b g e l n:Nat):AV.denil (.sl b g e l n)=.sl b g e l n:=rfl
@[simp] theorem denil_asl (b g e i l n:Nat):AV.denil (.asl b g e i l n)=.asl b g e i l n:=rfl
@[simp] theorem cells_agg (c:List AV):AV.cells (.agg c)=c:=rfl
@[simp] theorem cells_int (k:IntKind) (n:Int):AV.cells (.int k n)=[.int k n]:=rfl
@[simp] theorem cells_str (c:List UInt8):AV.cells (.str c)=[.str c]:=rfl
@[simp] theorem cells_bool (b:Bool):AV.cells (.bool b)=[.bool b]:=rfl
@[simp] theorem cells_lst (c:List (List AV)) (e:Bool):AV.cells (.lst c e)=[.lst c e]:=rfl
@[simp] theorem cells_sl (b g e l n:Nat):AV.cells (.sl b g e l n)=[.sl b g e l n]:=rfl
@[simp] theorem cells_ptr (b g e l n:Nat):AV.cells (.ptr b g e l n)=[.ptr b g e l n]:=rfl
@[simp] theorem cells_nils:AV.cells .nils=[.nils]:=rfl
@[simp] theorem cells_nilp:AV.cells .nilp=[.nilp]:=rfl
@[simp] theorem cells_map (b:Nat):AV.cells (.map b)=[.map b]:=rfl
@[simp] theorem cells_fn (f:FuncId) (c:List AV):AV.cells (.fn f c)=[.fn f c]:=rfl
@[simp] theorem leaf_int (k:IntKind) (n:Int):AV.leaf (.int k n)=true:=rfl
@[simp] theorem leaf_str (c:List UInt8):AV.leaf (.str c)=true:=rfl
@[simp] theorem leaf_bool (b:Bool):AV.leaf (.bool b)=true:=rfl
@[simp] theorem leaf_lst (c:List (List AV)) (e:Bool):AV.leaf (.lst c e)=true:=rfl
@[simp] theorem leaf_sl (b g e l n:Nat):AV.leaf (.sl b g e l n)=true:=rfl
@[simp] theorem leaf_ptr (b g e l n:Nat):AV.leaf (.ptr b g e l n)=true:=rfl
@[simp] theorem leaf_nils:AV.leaf .nils=true:=rfl
@[simp] theorem leaf_nilp:AV.leaf .nilp=true:=rfl
@[simp] theorem leaf_map (b:Nat):AV.leaf (.map b)=true:=rfl
@[simp] theorem leaf_fn (f:FuncId) (c:List AV):AV.leaf (.fn f c)=true:=rfl
@[simp] theorem allocG_eq (H:Heap) (g:Nat) (v:AV):allocG H g v=(.ptr H.length g v.cells.length 0 0,H++[.rows v.cells.length g [v.cells]]):=rfl
@[simp] theorem allocA_eq (H:Heap) (v:AV):allocA H v=(.ptr H.length 0 v.cells.length 0 0,H++[.rows v.cells.length 0 [v.cells]]):=rfl
@[simp] theorem addOff_ptr (b g e i f n:Nat):addOff (.ptr b g e i f) n=some (.ptr b g e i (f+n)):=Eq.trans rfl rfl
@[simp] theorem addOff_eptr (c:List AV) (n:Nat):addOff (.eptr c) n=if n≤c.length then some (.eptr (c.drop n)) else none:=Eq.trans rfl rfl
@[simp] theorem wantedV_bool (b w:Bool):wantedV (.bool b) w=some (b==w):=rfl
@[simp] theorem wantedV_tup (l:List AV) (w:Bool):wantedV (.tup l) w=some false:=rfl
def oif (p:Bool) (a b:Option Bool):Option Bool:=match p with | true=>a | false=>b
@[simp] theorem oif_and (p a:Bool):oif p (some a) (some false)=some (p&&a):=by cases p<;>cases a<;>rfl
@[simp] theorem wantedV_pif (c:Bool) (a b:AV) (w:Bool):wantedV (pif c a b) w=oif c (wantedV a w) (wantedV b w):=by cases c<;>rfl
@[simp] theorem app_get (H L:Heap) (k:Nat):(H++L)[H.length+k]?=L[k]?:=by rw [List.getElem?_append_right (by omega)];congr 1;omega
@[simp] theorem app_get0 (H L:Heap):(H++L)[H.length]?=L[0]?:=app_get H L 0
@[simp] theorem app_set (H L:Heap) (k:Nat) (v:Blk):(H++L).set (H.length+k) v=H++L.set k v:=by
 have h:=List.set_append_right (s:=H) (t:=L) (H.length+k) v (Nat.le_add_right _ _)
 rw [Nat.add_sub_cancel_left] at h
 exact h
theorem loopC_rule {b:Code} {Q:Post} (I:Sl→Heap→Prop) (m:Sl→Heap→Nat) {s:Sl} {H:Heap} (h0:I s H)
 (hstep:∀s H,I s H→wpC P C N base b s H fun e s' H'=>match e with | .normal=>I s' H'∧m s' H'<m s H | .exit i=>Q (.exit i) s' H' | .ret=>Q .ret s' H') :
 LoopC P C N base b s H Q:=loop_rule I m h0 hstep
def cutQ (M:Sl→Heap→Prop) (Q:Post):Post:=fun e s H=>match e with | .normal=>M s H | .exit i=>Q (.exit i) s H | .ret=>Q .ret s H
@[simp ↓] theorem cutQ_normal (M:Sl→Heap→Prop) (Q:Post) (s:Sl) (H:Heap):cutQ M Q .normal s H=M s H:=Eq.trans rfl rfl
@[simp ↓] theorem cutQ_exit (M:Sl→Heap→Prop) (Q:Post) (i:Nat) (s:Sl) (H:Heap):cutQ M Q (.exit i) s H=Q (.exit i) s H:=Eq.trans rfl rfl
@[simp ↓] theorem cutQ_ret (M:Sl→Heap→Prop) (Q:Post) (s:Sl) (H:Heap):cutQ M Q .ret s H=Q .ret s H:=Eq.trans rfl rfl
theorem cut {a b:Code} (M:Sl→Heap→Prop) {s:Sl} {H:Heap} {Q:Post} (h1:wpC P C N base a s H (cutQ M Q)) (h2:∀s H,M s H→wpC P C N base b s H Q):wpC P C N base (.seq a b) s H Q:=by
 refine wpC_mono (c:=a) (fun e s' H' h=>?_) h1
 cases e with
 | normal=>exact h2 s' H' h
 | exit i=>exact h
 | ret=>exact h
end Go.Proofs.Ev
namespace Go.Proofs.Ev
variable {P:Program} {C:Cfg} {N base:Nat}
def Ret (P:Program) (C:Cfg) (f:FuncId) (caps args:List AV) (v:AV):Prop:=∀base H,∃n,callA P C n base (.fn f caps) args H=some (v,H)
theorem Ret.eq {f:FuncId} {caps args:List AV} {v:AV} (h:Ret P C f caps args v) (base:Nat) (H:Heap) (K:AV→Heap→Prop):CallW P C base (.fn f caps) args H K=K v H:=by
 obtain ⟨n,hn⟩:=h base H
 apply propext
 constructor
 ·rintro ⟨m,v',H',h1,h2⟩
  have e1:=callA_mono (Nat.le_max_left n m) hn
  have e2:=callA_mono (Nat.le_max_right n m) h1
  rw [e1] at e2
  simp only [Option.some.injEq,Prod.mk.injEq] at e2
  obtain ⟨rfl,rfl⟩:=e2
  exact h2
 ·intro h2;exact ⟨n,v,H,hn,h2⟩
theorem ret_pure {f:FuncId} {caps args:List AV} {v:AV} (hp:C.pure f=true)
 (h:∀H:Heap,FuncW P C H.length f (args++caps) H fun r H'=>freezeA H' H.length 3 r=some v):Ret P C f caps args v:=by
 intro base H
 obtain ⟨n,r,H',h1,h2⟩:=h H
 exact ⟨n+1,by simp only [callA,hp];rw [h1];simp [h2]⟩
theorem ret_any {f:FuncId} {caps args:List AV} {A:AV→Prop} (hp:C.pure f=true)
 (h:∀H:Heap,FuncW P C H.length f (args++caps) H fun r H'=>∃v,freezeA H' H.length 3 r=some v∧A v):∀base H,∃v,(∃n,callA P C n base (.fn f caps) args H=some (v,H))∧A v:=by
 intro base H
 obtain ⟨n,r,H',h1,v,h2,h3⟩:=h H
 exact ⟨v,⟨n+1,by simp only [callA,hp];rw [h1];simp [h2]⟩,h3⟩
def Ret0 (P:Program) (C:Cfg) (f:FuncId) (aS:List AV) (v:AV):Prop:=C.pure f=false∧C.frz f=true∧v.flat=true∧∃n H',funcA P C n 0 f aS []=some (v,H')
theorem ret_frz {f:FuncId} {aS:List AV} {v:AV} (hp:C.pure f=false) (hz:C.frz f=true) (hv:v.flat=true) (h:FuncW P C 0 f aS [] fun r _=>r=v):Ret0 P C f aS v:=by
 obtain ⟨n,r,H',h1,rfl⟩:=h
 exact ⟨hp,hz,hv,n,H',h1⟩
theorem ret_frzH {f:FuncId} {aS:List AV} {v:AV} (hp:C.pure f=false) (hz:C.frz f=true) (hv:v.flat=true) (h:∀H:Heap,FuncW P C H.length f aS H fun r _=>r=v):Ret0 P C f aS v:=ret_frz hp hz hv (h [])
theorem Ret0.eq {f:FuncId} {aS caps args:List AV} {v:AV} (h:Ret0 P C f aS v) (base:Nat) (H:Heap) (ha:(args++caps).mapM (freezeA H 0 6)=some aS) (K:AV→Heap→Prop):CallW P C base (.fn f caps) args H K=K v H:=by
 obtain ⟨hp,hz,hv,n,H1,hn⟩:=h
 have hc:callA P C (n+1) base (.fn f caps) args H=some (v,H):=by simp only [callA,hp,hz,ha];rw [hn];simp [hv]
 apply propext
 constructor
 ·rintro ⟨m,v',H',h1,h2⟩
  have e1:=callA_mono (Nat.le_max_left (n+1) m) hc
  have e2:=callA_mono (Nat.le_max_right (n+1) m) h1
  rw [e1] at e2
  simp only [Option.some.injEq,Prod.mk.injEq] at e2
  obtain ⟨rfl,rfl⟩:=e2
  exact h2
 ·intro h2;exact ⟨n+1,v,H,hc,h2⟩
theorem freezes_closed {H:Heap} {k d:Nat}:∀{l:List AV},AV.closeds l=true→l.mapM (freezeA H k d)=some l
 | [],_=>rfl
 | v::l,h=>by
  simp only [AV.closeds,Bool.and_eq_true] at h
  have h1:freezeA H k d v=some v:=by cases d<;>simp [freezeA,h.1]
  rw [List.mapM_cons,h1,freezes_closed h.2];rfl
theorem Ret0.ret {f:FuncId} {args:List AV} {v:AV} (h:Ret0 P C f args v) (ha:AV.closeds args=true):Ret P C f [] args v:=by
 intro base H
 obtain ⟨hp,hz,hv,n,H1,hn⟩:=h
 exact ⟨n+1,by simp only [callA,hp,hz,List.append_nil,freezes_closed ha];rw [hn];simp [hv]⟩
@[simp] theorem freeze_int (H:Heap) (k d:Nat) (i:IntKind) (n:Int):freezeA H k d (.int i n)=some (.int i n):=by cases d<;>simp [freezeA,AV.closed]
@[simp] theorem freeze_bool (H:Heap) (k d:Nat) (b:Bool):freezeA H k d (.bool b)=some (.bool b):=by cases d<;>simp [freezeA,AV.closed]
@[simp] theorem freeze_str (H:Heap) (k d:Nat) (b:List UInt8):freezeA H k d (.str b)=some (.str b):=by cases d<;>simp [freezeA,AV.closed]
@[simp] theorem freeze_nils (H:Heap) (k d:Nat):freezeA H k d .nils=some .nils:=by cases d<;>simp [freezeA,AV.closed]
theorem freeze_closed {H:Heap} {k d:Nat} {v:AV} (h:v.closed=true):freezeA H k d v=some v:=by cases d<;>simp [freezeA,h]
theorem freeze_tup {H:Heap} {k d:Nat} {vs ws:List AV} (h:vs.mapM (freezeA H k d)=some ws):freezeA H k (d+1) (.tup vs)=some (.tup ws):=by
 unfold freezeA
 by_cases hc:AV.closeds vs=true
 ·rw [if_pos (by simpa [AV.closed] using hc)]
  rw [freezes_closed hc] at h;cases h;rfl
 ·rw [if_neg (by simpa [AV.closed] using hc)];simp [h]
theorem freeze_agg {H:Heap} {k d:Nat} {vs ws:List AV} (h:vs.mapM (freezeA H k d)=some ws):freezeA H k (d+1) (.agg vs)=some (.agg ws):=by
 unfold freezeA
 by_cases hc:AV.closeds vs=true
 ·rw [if_pos (by simpa [AV.closed] using hc)]
  rw [freezes_closed hc] at h;cases h;rfl
 ·rw [if_neg (by simpa [AV.closed] using hc)];simp [h]
theorem freeze_two {H:Heap} {k d:Nat} {a b x y:AV} (ha:freezeA H k d a=some x) (hb:freezeA H k d b=some y):freezeA H k (d+1) (.tup [a,b])=some (.tup [x,y]):=freeze_tup (by simp [ha,hb])
attribute [simp] takeVal idx
def blkRow (H:Heap) (b g e i:Nat):Option (List AV) :=
 match H[b]? with
 | some (.rows e' g' rs)=>if g=g'∧e=e' then rs[i]? else none
 | _=>none
@[simp] theorem load_ptr (H:Heap) (t:TypeId) (b g e i f:Nat):loadA P H t (.ptr b g e i f)=(blkRow H b g e i).bind fun row=>takeVal P t (row.drop f):=by
 simp only [loadA,cellsAt,blkRow]
 cases H[b]? with
 | none=>rfl
 | some x =>
  cases x with
  | rows e' g' rs =>
   by_cases h:g=g'∧e=e'
   ·simp only [if_pos h];cases rs[i]?<;>rfl
   ·simp only [if_neg h];rfl
  | _=>rfl
@[simp] theorem load_eptr (H:Heap) (t:TypeId) (c:List AV):loadA P H t (.eptr c)=takeVal P t c:=by simp only [loadA,cellsAt,Option.bind_some]
theorem blkRow_eq {H:Heap} {b g e i:Nat} {rs:List (List AV)} (h:H[b]?=some (.rows e g rs)):blkRow H b g e i=rs[i]?:=by simp [blkRow,h]
@[simp] theorem blkRow_app (H L:Heap) (g e i k:Nat):blkRow (H++L) (H.length+k) g e i=blkRow L k g e i:=by simp only [blkRow,app_get]
@[simp] theorem blkRow_app0 (H L:Heap) (g e i:Nat):blkRow (H++L) H.length g e i=blkRow L 0 g e i:=blkRow_app H L g e i 0
@[simp] theorem blkRow_zero (g e i:Nat) (rs:List (List AV)) (L:Heap):blkRow (.rows e g rs::L) 0 g e i=rs[i]?:=by simp [blkRow]
@[simp] theorem blkRow_succ (g e i k:Nat) (b:Blk) (L:Heap):blkRow (b::L) (k+1) g e i=blkRow L k g e i:=by simp [blkRow]
section bin
variable (t:TypeId) (k:IntKind) (a b:Int) (x y:List UInt8) (p q:Bool)
@[simp] theorem bin_add:binA P C .add t (.int k a) (.int k b)=some (.int k (k.wrap (a+b))):=by simp [binA]
@[simp] theorem bin_sub:binA P C .sub t (.int k a) (.int k b)=some (.int k (k.wrap (a-b))):=by simp [binA]
@[simp] theorem bin_mul:binA P C .mul t (.int k a) (.int k b)=some (.int k (k.wrap (a*b))):=by simp [binA]
@[simp] theorem bin_eql:binA P C .eql t (.int k a) (.int k b)=some (.bool (a==b)):=by simp [binA]
@[simp] theorem bin_neq:binA P C .neq t (.int k a) (.int k b)=some (.bool (a != b)):=by simp [binA]
@[simp] theorem bin_lss:binA P C .lss t (.int k a) (.int k b)=some (.bool (decide (a<b))):=by simp [binA]
@[simp] theorem bin_leq:binA P C .leq t (.int k a) (.int k b)=some (.bool (decide (a≤b))):=by simp [binA]
@[simp] theorem bin_gtr:binA P C .gtr t (.int k a) (.int k b)=some (.bool (decide (a > b))):=by simp [binA]
@[simp] theorem bin_geq:binA P C .geq t (.int k a) (.int k b)=some (.bool (decide (a≥b))):=by simp [binA]
@[simp] theorem bins_eql:binA P C .eql t (.str x) (.str y)=some (.bool (x==y)):=by simp [binA]
@[simp] theorem bins_neq:binA P C .neq t (.str x) (.str y)=some (.bool (!(x==y))):=by simp [binA]
theorem bins_add (h:x.length+y.length≤9223372036854775807):binA P C .add t (.str x) (.str y)=some (.str (x++y)):=by
 simp only [binA];rw [if_pos (by omega)]
theorem bin_quo (h:b≠0):binA P C .quo t (.int k a) (.int k b)=some (.int k (k.wrap (a.tdiv b))):=by simp [binA,h]
theorem bin_rem (h:b≠0):binA P C .rem t (.int k a) (.int k b)=some (.int k (a.tmod b)):=by simp [binA,h]
@[simp] theorem un_not:unA .not (.bool p)=some (.bool !p):=Eq.trans rfl rfl
@[simp] theorem un_neg:unA .neg (.int k a)=some (.int k (k.wrap (0-a))):=Eq.trans rfl rfl
end bin
theorem indexAddr_arr {t:TypeId} {len elem n:Nat} (h:P.underlying t=some (.array len elem)) (hn:szOf P elem=some n) (x ix:AV):indexAddrA P t x ix=(idx ix len).bind fun i=>addOff x (i*n):=by
 simp only [indexAddrA,h,hn];cases idx ix len<;>rfl
theorem idx_nat (K:IntKind) (k n:Nat):idx (.int K (k:Int)) n=if k<n then some k else none:=by
 simp only [idx];by_cases h:k<n
 ·rw [if_pos h,if_pos (by omega)];simp
 ·rw [if_neg h,if_neg (by omega)]
theorem wrap_in {x:Int} (h1 : -9223372036854775808≤x) (h2:x≤9223372036854775807):IntKind.i64.wrap x=x:=IntWalk.i64_in x ⟨h1,h2⟩
theorem wrap_nat {k:Nat} (h:k≤9223372036854775807):IntKind.i64.wrap (k:Int)=k:=IntWalk.i64_in _ (by omega)
theorem wrap_succ {k n:Nat} (h:k<n) (hn:n≤9223372036854775807):IntKind.i64.wrap ((k:Int)+1)=((k+1:Nat):Int):=IntWalk.i64_in _ (by omega)
end Go.Proofs.Ev
namespace Go.Proofs.Ev
variable {P:Program}
theorem info_of {t:TypeId} {x:TypeInfo} (h:∀w,(typeInfo t).run P w=.ok x w):P.info? t=some x:=by
 have h:=h default
 cases hi:P.info? t with
 | none=>simp [typeInfo,hi,Sem.run,program,stuck] at h
 | some y =>
  simp [typeInfo,hi,Sem.run,program] at h
  rw [h]
theorem sz_of {t n:Nat} {x:TypeInfo} (h:P.info? t=some x) (hn:x.size=n):szOf P t=some n:=by rw [szOf,h,←hn];rfl
theorem by_of {t n:Nat} {x:TypeInfo} (h:P.info? t=some x) (hn:x.bytes=n):bytesOf P t=some n:=by rw [bytesOf,h,←hn];rfl
def isAggD:TypeDesc→Bool | .struct _ | .array _ _=>true | _=>false
theorem ag_of {t:TypeId} {x:TypeDesc} {b:Bool} (h:P.underlying t=some x) (hb:isAggD x=b):isAggT P t=some b:=by
 rw [isAggT,h,←hb];cases x<;>rfl
theorem fi_of {t ft k n off:Nat} {fs:Array Field} {fd:Field} (h:P.underlying t=some (.struct fs)) (hf:fs[k]?=some fd) (ht:fd.type=ft) (hs:szOf P ft=some (n+1)) (ho:fd.offset=off) (x:AV):fieldA P t x k=addOff x off:=by
 simp only [fieldA,h,hf,ht,hs,ho]
theorem len_str {t:TypeId} (h:P.underlying t=some .string) (H:Heap) (l:List UInt8):lenA P H t (.str l)=some (.int .i64 l.length):=by simp only [lenA,h]
theorem len_lst {t e:TypeId} (h:P.underlying t=some (.slice e)) (H:Heap) (r:List (List AV)) (x:Bool):lenA P H t (.lst r x)=some (.int .i64 r.length):=by simp only [lenA,h]
theorem len_sl {t e:TypeId} (h:P.underlying t=some (.slice e)) (H:Heap) (b g s l n:Nat):lenA P H t (.sl b g s l n)=some (.int .i64 n):=by simp only [lenA,h]
theorem ia_lst {t e:TypeId} {n:Nat} (h:P.underlying t=some (.slice e)) (hn:szOf P e=some n) (r:List (List AV)) (x:Bool) (ix:AV):indexAddrA P t (.lst r x) ix=(idx ix r.length).bind fun i=>(r[i]?).bind fun row=>if row.length=n then some (.eptr row) else none:=by
 simp only [indexAddrA,h,hn]
 cases idx ix r.length with
 | none=>rfl
 | some i=>cases h1:r[i]?<;>simp [h1]
theorem ia_sl {t e:TypeId} {n:Nat} (h:P.underlying t=some (.slice e)) (hn:szOf P e=some n) (b g s l m:Nat) (ix:AV):indexAddrA P t (.sl b g s l m) ix=if n=s then (idx ix m).map fun i=>.ptr b g s (l+i) 0 else none:=by
 simp only [indexAddrA,h,hn]
theorem ix_str {t:TypeId} (h:P.underlying t=some .string) (l:List UInt8) (ix:AV):indexA P t (.str l) ix=(idx ix l.length).bind fun i=>(l[i]?).map fun b=>.int .u8 b.toNat:=by
 simp only [indexA,h];cases idx ix l.length<;>rfl
theorem bu_of {t:TypeId} {z:List AV} {fs:Array Field} (places:List (Nat×Nat)) (hz:ofZero P t=some (.agg z)) (h:P.underlying t=some (.struct fs))
 (hp:fs.toList.mapM (fun f=>(szOf P f.type).map fun s=>(f.offset,s))=some places) (ps:List (Nat×AV)):buildA P t ps=(fillA (fun i=>places[i]?) z ps).map .agg:=by
 simp only [buildA,hz,h,hp];rfl
theorem bu_arr {t e n s:Nat} {z:List AV} (hz:ofZero P t=some (.agg z)) (h:P.underlying t=some (.array n e)) (hs:szOf P e=some s) (ps:List (Nat×AV)):buildA P t ps=(fillA (fun i=>some (i*s,s)) z ps).map .agg:=by
 simp only [buildA,hz,h,hs];rfl
end Go.Proofs.Ev
namespace Go.Proofs.Ev
def dig (l:List Nat):List AV:=l.map fun (n:Nat)=>AV.int .u8 (n:Int)
@[simp] theorem dig_len (l:List Nat):(dig l).length=l.length:=by simp [dig]
@[simp] theorem dig_leaf (l:List Nat):(dig l).all AV.leaf=true:=by simp [dig]
theorem dig_get {l:List Nat} {k:Nat} (h:k<l.length):((dig l).drop k).head?=some (.int .u8 l[k]):=by simp [dig,List.head?_drop,h]
inductive SK where | nil | exact | loose
 deriving DecidableEq
def slAV (k:SK) (rows:List (List AV)):AV:=match k,rows with
 | .nil,[]=>.nils
 | .exact,rows=>.lst rows true
 | _,rows=>.lst rows false
@[simp] theorem slAV_leaf (k:SK) (rows:List (List AV)):(slAV k rows).leaf=true:=by cases k<;>cases rows<;>rfl
@[simp] theorem slAV_cells (k:SK) (rows:List (List AV)):(slAV k rows).cells=[slAV k rows]:=by cases k<;>cases rows<;>rfl
theorem slAV_denil (k:SK) (rows:List (List AV)):∃e,(slAV k rows).denil=.lst rows e:=by cases k<;>cases rows<;>exact ⟨_,rfl⟩
theorem len_slAV {P:Program} {t e:TypeId} (h:P.underlying t=some (.slice e)) (H:Heap) (k:SK) (rows:List (List AV)):lenA P H t (slAV k rows).denil=some (.int .i64 rows.length):=by
 obtain ⟨x,hx⟩:=slAV_denil k rows;rw [hx,len_lst h]
theorem ia_slAV {P:Program} {t e:TypeId} {n:Nat} (h:P.underlying t=some (.slice e)) (hn:szOf P e=some n) (k:SK) (rows:List (List AV)) (ix:AV):indexAddrA P t (slAV k rows) ix=(idx ix rows.length).bind fun i=>(rows[i]?).bind fun row=>if row.length=n then some (.eptr row) else none:=by
 cases rows with
 | nil =>
  have h0:idx ix 0=none:=by
   cases ix with
   | int K i=>simp only [idx];rw [if_neg (by omega)]
   | _=>rfl
  have e0:∀x,indexAddrA P t (.lst [] x) ix=none:=fun x=>by rw [ia_lst h hn];show (idx ix 0).bind _=none;rw [h0];rfl
  have e1:indexAddrA P t .nils ix=none:=by simp only [indexAddrA,h,hn]
  show _=(idx ix 0).bind _
  rw [h0]
  cases k
  ·exact e1
  ·exact e0 _
  ·exact e0 _
 | cons r rows=>cases k<;>simp only [slAV]<;>rw [ia_lst h hn]
structure IdV where
 d:List Nat
 n:Int
 h:d.length=32
 b:∀x∈d,x<256
def IdV.cells (x:IdV):List AV:=dig x.d++[.int .i64 x.n]
@[simp] theorem IdV.len (x:IdV):x.cells.length=33:=by simp [IdV.cells,x.h]
@[simp] theorem IdV.leafs (x:IdV):x.cells.all AV.leaf=true:=by simp [IdV.cells]
@[simp] theorem IdV.dig (x:IdV):x.cells.take 32=Ev.dig x.d:=by
 unfold IdV.cells;rw [List.take_append_of_le_length (by simp [x.h])];exact List.take_of_length_le (by simp [x.h])
@[simp] theorem IdV.num (x:IdV):x.cells.drop 32=[.int .i64 x.n]:=by
 unfold IdV.cells;rw [List.drop_append_of_le_length (by simp [x.h]),List.drop_of_length_le (by simp [x.h])];rfl
@[simp] theorem IdV.num1 (x:IdV):x.cells[32]?=some (.int .i64 x.n):=by
 rw [←List.head?_drop,x.num];rfl
def digest0:List Nat:=List.replicate 32 0
def zeroId:IdV:=⟨digest0,0,by decide,by decide⟩
theorem getElem_of {l:List AV} {k:Nat} {v:AV} (h:l[k]?=some v) (hk:k<l.length):l[k]=v:=by
 rw [List.getElem?_eq_getElem hk] at h;exact Option.some.inj h
@[simp] theorem IdV.num2 (x:IdV) (h:32<x.cells.length):x.cells[32]=.int .i64 x.n:=getElem_of x.num1 h
@[simp] theorem IdV.take33 (x:IdV):x.cells.take 33=x.cells:=List.take_of_length_le (by simp)
@[simp] theorem IdV.drop33 (x:IdV):x.cells.drop 33=[]:=List.drop_of_length_le (by simp)
theorem drop_skip {a b:List AV} {n m:Nat} (h:a.length=n) (hm:n≤m):(a++b).drop m=b.drop (m-n):=by
 subst h
 rw [List.drop_append,List.drop_of_length_le hm,List.nil_append]
theorem closeds_append:∀(a b:List AV),AV.closeds (a++b)=(AV.closeds a&&AV.closeds b)
 | [],b=>by simp [AV.closeds]
 | x::a,b=>by simp [AV.closeds,closeds_append a b,Bool.and_assoc]
theorem closeds_dig (l:List Nat):AV.closeds (dig l)=true:=by
 induction l with
 | nil=>rfl
 | cons a l ih=>simp only [dig,List.map_cons,AV.closeds,AV.closed,Bool.true_and];exact ih
@[simp] theorem IdV.closed (x:IdV):AV.closeds x.cells=true:=by simp [IdV.cells,closeds_append,closeds_dig,AV.closeds,AV.closed]
theorem closedss_map {α:Type} {f:α→List AV} (h:∀x,AV.closeds (f x)=true):∀l:List α,AV.closedss (l.map f)=true
 | []=>rfl
 | x::l=>by simp [AV.closedss,h x,closedss_map h l]
theorem slAV_closed {k:SK} {rows:List (List AV)} (h:AV.closedss rows=true):(slAV k rows).closed=true:=by
 cases k<;>cases rows<;>simp_all [slAV,AV.closed,AV.closedss]
theorem conf_dig (l:List Nat):conf (List.replicate l.length (.int .u8)) (dig l)=true:=by
 induction l with
 | nil=>rfl
 | cons a l ih =>
  simp only [List.length_cons,List.replicate_succ,dig,List.map_cons,conf]
  rw [show (List.map (fun (n:Nat)=>AV.int .u8 (n:Int)) l)=dig l from rfl,ih];rfl
theorem cellsEq_dig:∀(a b:List Nat),a.length=b.length→cellsEq (dig a) (dig b)=decide (a=b)
 | [],[],_=>rfl
 | x::a,y::b,h=>by
  simp only [dig,List.map_cons,cellsEq,cellEq]
  have ih:=cellsEq_dig a b (by simpa using h)
  simp only [dig] at ih
  rw [ih]
  by_cases h1:x=y
  ·subst h1;simp
  ·have:((x:Int)==(y:Int))=false:=by simp;omega
   rw [this];simp [h1]
end Go.Proofs.Ev
