/- Part 27 of the proof that quiltlaw38.BlameHistory returns true: no statement of its own. -/
import Derived.Test.YtkicailcmamaiaaGreatDoorH26
import Derived.Test.YtkicailcmamaiaaGreatDoorH24
import Derived.Test.YtkicailcmamaiaaGreatDoorTie
import Derived.JoinedCond
import Derived.KernelRfl
set_option linter.all false
namespace Go.Proofs.Ev
open Go.Proofs
variable {C:bD} {σ:aZ}
theorem na:∀{k k':List LK} {c c':List AV},di k c=true→di k' c'=true→di (k++k') (c++c')=true
 | [],_,[],_,_,h=>h
 | [],_,_::_,_,h,_=>by simp [di] at h
 | _::_,_,[],_,h,_=>by simp [di] at h
 | a::k,k',x::c,c',h,h'=>by
  simp only [List.cons_append,di,Bool.and_eq_true] at h ⊢
  exact ⟨h.1,na h.2 h'⟩
theorem tt:∀{ks:List LK} {c:List AV},di ks c=true→bS c c=true
 | [],[],_=>rfl
 | [],_::_,h=>by simp [di] at h
 | _::_,[],h=>by simp [di] at h
 | a::ks,x::c,h=>by
  simp only [di,Bool.and_eq_true] at h
  simp only [bS,Bool.and_eq_true]
  refine ⟨?_,tt h.2⟩
  cases x<;>first | (simp [m6];done) | (have:=h.1;simp [gf] at this)
theorem CQ {P:Program} {t:TypeId} {ks:List LK} (hk:C.kinds t=some ks) {c:List AV} (hc:di ks c=true):bP P C .neq t (.agg c) (.agg c)=some (.bool false):=by
 simp only [bP,qK,hk,hc,Bool.and_self,if_true,tt hc];rfl
theorem Of (S:cC C σ) (x:gG):bP Tryz.prog C .neq 62 (.agg x.cells) (.agg x.cells)=some (.bool false):=by
 refine CQ S.kEv ?_
 have h1:x.cells=[.int .i64 x.kind]++x.patch.cells++x.id.cells:=by simp [gG.cells]
 have h2:=fE x.patch.d
 rw [x.patch.h] at h2
 rw [h1]
 exact na (na rfl h2) (sF _)
theorem Og (S:cC C σ) (x:mT):bP Tryz.prog C .neq 86 (.agg x.cells) (.agg x.cells)=some (.bool false):=by
 refine CQ S.kName ?_
 have h1:x.cells=x.entry.cells++x.parent.cells++[.str x.name]:=by simp [mT.cells]
 rw [h1]
 exact na (na (sF _) (sF _)) rfl
theorem Oe (S:cC C σ) (x:ar):bP Tryz.prog C .neq 25 (.agg x.cells) (.agg x.cells)=some (.bool false):=by
 have h:=jv (jL S.toaz x x)
 simpa using h
theorem wH (S:cC C σ) (l:List gG) (k k2:SK) (hl:l.length≤2^30):b8 Tryz.prog C 12 [] [am k (l.map gG.cells),am k2 (l.map gG.cells)] (.bool true):=by
 refine aw (S.pureX _ (by decide)) fun H=>aj Tryz.func12 rfl (S.prim _ (by decide)) (by simp) (by kernel_rfl) ?_
 unfold Tryz.f12
 have e:=Of S
 simp [aE]
 refine ay l.length (fun i s X=>X=H∧s 0=am k (l.map gG.cells)∧s 1=am k2 (l.map gG.cells)∧s 5=.int .i64 i) ?_ ?_
 ·exact ⟨rfl,rfl,rfl,rfl⟩
 rintro i s X ⟨rfl,q0,q1,q5⟩ hi
 by_cases h:i<l.length
 ·simp [q0,q1,q5,h,e,au h (by omega)]
 ·have h':i=l.length:=by omega
  subst h'
  simp [q0,q1,q5]
theorem uL (S:cC C σ) (l:List mT) (k k2:SK) (hl:l.length≤2^30):b8 Tryz.prog C 14 [] [am k (l.map mT.cells),am k2 (l.map mT.cells)] (.bool true):=by
 refine aw (S.pureX _ (by decide)) fun H=>aj Tryz.func14 rfl (S.prim _ (by decide)) (by simp) (by kernel_rfl) ?_
 unfold Tryz.f14
 have e:=Og S
 simp [aE]
 refine ay l.length (fun i s X=>X=H∧s 0=am k (l.map mT.cells)∧s 1=am k2 (l.map mT.cells)∧s 5=.int .i64 i) ?_ ?_
 ·exact ⟨rfl,rfl,rfl,rfl⟩
 rintro i s X ⟨rfl,q0,q1,q5⟩ hi
 by_cases h:i<l.length
 ·simp [q0,q1,q5,h,e,au h (by omega)]
 ·have h':i=l.length:=by omega
  subst h'
  simp [q0,q1,q5]
theorem uK (S:cC C σ) (l:List ar) (k k2:SK) (hl:l.length≤2^30):b8 Tryz.prog C 13 [] [am k (l.map ar.cells),am k2 (l.map ar.cells)] (.bool true):=by
 refine aw (S.pureX _ (by decide)) fun H=>aj Tryz.func13 rfl (S.prim _ (by decide)) (by simp) (by kernel_rfl) ?_
 unfold Tryz.f13
 have e:=Oe S
 simp [aE]
 refine ay l.length (fun i s X=>X=H∧s 0=am k (l.map ar.cells)∧s 1=am k2 (l.map ar.cells)∧s 5=.int .i64 i) ?_ ?_
 ·exact ⟨rfl,rfl,rfl,rfl⟩
 rintro i s X ⟨rfl,q0,q1,q5⟩ hi
 by_cases h:i<l.length
 ·simp [q0,q1,q5,h,e,au h (by omega)]
 ·have h':i=l.length:=by omega
  subst h'
  simp [q0,q1,q5]
def eV (s:List ag) (id:aC) (k:Int):Int:=match aU s id with | none=>7 | some x=>if x.kind=k then 0 else 8
theorem tX (hi:b9 σ) {s:List ag} (P:fa s) (id:aC) (k:Int):ly σ s id k=eV s id k:=by
 have h:=nS hi P id
 unfold ly eV
 cases h1:aU s id with
 | none =>
  rw [h1] at h
  cases h2:gp σ s id with
  | none=>rfl
  | some y=>rw [h2] at h;cases h
 | some x =>
  rw [h1] at h
  cases h2:gp σ s id with
  | none=>rw [h2] at h;cases h
  | some y =>
   rw [h2] at h
   have hk:x.kind=y.kind:=(congrArg (·.kind) (Option.some.inj h):(kj x).kind=(kj y).kind)
   simp only [hk]
theorem uE (S:cC C σ) (hi:b9 σ) {s0:List ag} (P:fa s0) (h8:s0.length≤8) (k:SK) (id:aC):b8 Tryz.prog C 29 [] [am k (s0.map ag.cells),.agg id.cells] (.int .i64 (eV s0 id 1)):=by
 refine aw (S.pureX _ (by decide)) fun H=>aj Tryz.func29 rfl (S.prim _ (by decide)) (by simp) (by kernel_rfl) ?_
 unfold Tryz.f29 eV
 have e1:=(nX S hi P h8 k id).eq
 cases hf:aU s0 id with
 | none =>
  rw [hf] at e1
  simp [aE,e1,ao]
 | some x =>
  rw [hf] at e1
  by_cases hk:x.kind=1
  ·simp [aE,e1,ao,hk]
  ·simp [aE,e1,ao,hk]
def yv (sz:Nat) (X:ae) (v:AV) (rows:List (List AV)):Prop:=(∃k,v=am k rows)∨∃b g,v=.sl b g sz 0 rows.length∧X[b]?=some (.rows sz g rows)
theorem yv.app {sz:Nat} {X:ae} {v:AV} {rows:List (List AV)} (h:yv sz X v rows) (L:ae):yv sz (X++L) v rows:=by
 rcases h with h | ⟨b,g,h1,h2⟩
 ·exact .inl h
 ·exact .inr ⟨b,g,h1,by rw [List.getElem?_append_left (List.getElem?_eq_some_iff.1 h2).1];exact h2⟩
theorem yv.len {P:Program} {t e:TypeId} (h:P.underlying t=some (.slice e)) {sz:Nat} {X H:ae} {v:AV} {rows:List (List AV)} (hv:yv sz X v rows):fQ P H t v.denil=some (.int .i64 rows.length):=by
 rcases hv with ⟨k,rfl⟩ | ⟨b,g,rfl,_⟩
 ·exact gq h H k rows
 ·exact pl h H _ _ _ _ _
theorem yv.tail {sz:Nat} {X:ae} {v:AV} {rows:List (List AV)} {e:TypeId} (hv:yv sz X v rows):cq X (.slice e) v.denil=some rows:=by
 rcases hv with ⟨k,rfl⟩ | ⟨b,g,rfl,h⟩
 ·exact lR k rows
 ·change cg X (.sl b g sz 0 rows.length)=some rows
  simp [cg,h]
theorem yv.atF {P:Program} {t e:TypeId} {sz:Nat} (h:P.underlying t=some (.slice e)) (hs:br P e=some sz) {X:ae} {v:AV} {rows:List (List AV)} (hg:yv sz X v rows) {i:Nat} {r:List AV} (hi:rows[i]?=some r) (hr:r.length=sz) :
 ∃a,aX P t v (.int .i64 (i:Int))=some a∧∀off,off≤sz→∃a',bk a off=some a'∧∀t',i6 P X t' a'=fC P t' (r.drop off):=by
 obtain ⟨hlt,rfl⟩:=List.getElem?_eq_some_iff.1 hi
 rcases hg with ⟨k,rfl⟩ | ⟨b,g,rfl,hb⟩
 ·refine ⟨.eptr rows[i],?_,fun off ho=>⟨.eptr (rows[i].drop off),by rw [rD,if_pos (by omega)],fun t'=>by simp⟩⟩
  rw [iN h hs];simp [hlt,hr]
 ·refine ⟨.ptr b g sz i 0,?_,fun off ho=>⟨.ptr b g sz i (0+off),sV _ _ _ _ _ _,fun t'=>?_⟩⟩
  ·rw [rQ h hs];simp [hlt]
  ·rw [nB,gC hb];simp [hlt]
theorem yv.snoc {P:Program} {base:Nat} {ts:Array TypeId} {e e' sz by_:Nat} (h0:(ts[0]?).bind P.underlying=some (.slice e)) (h1:(ts[1]?).bind P.underlying=some (.slice e')) (hs:br P e=some sz) (hb:bytesOf P e=some by_)
 (hz:(aN P e).map (fun z=>z.cells.length)=some sz) (hp:0<sz) {X:ae} (hX:base≤X.length) {v:AV} {rows:List (List AV)} {r:List AV} (hv:yv sz X v rows) (hy:∀q∈rows,q.length=sz) (hr:r.length=sz) (hbound:(rows.length+1)*(by_+1)≤2^45) :
 ∃v1 X1 v2 X2,bg P base X ts (.lst [] true) v.denil=some (v1,X1)∧(∃J,X1=X++J)∧bg P base X1 ts v1.denil (.lst [r] true)=some (v2,X2)∧X1.length≤X2.length∧yv sz X2 v2 (rows++[r]):=by
 have hbb:rows.length*(by_+1)≤2^45:=Nat.le_trans (Nat.mul_le_mul_right _ (Nat.le_succ _)) hbound
 obtain ⟨v1,J1,a1,g1,_⟩:=aQ.appendG (P:=P) (base:=base) (Z:=X) (J:=[]) (v:=.lst [] true) (rows:=[]) (ys:=rows) (ts:=ts) h0 h1 hs hb hz hp rfl hX (.lst []) (by simp) (by rw [List.append_nil];exact hv.tail) hy (by simpa using hbb)
 obtain ⟨b,g,J2,a2,hb2,_⟩:=aQ.append (P:=P) (base:=base) (Z:=X) (J:=J1) (ts:=ts) (ys:=[r]) (x:=.lst [r] true) h0 h1 hs hb hz hp hX g1 (by simpa using hy) rfl (by simpa using hr) (by simp) (by simpa using hbound)
 rw [List.append_nil] at a1
 rw [List.nil_append] at hb2 a2
 refine ⟨v1,X++J1,_,X++J2,a1,⟨J1,rfl⟩,a2,rF a2,.inr ⟨X.length+b,g,by simp,?_⟩⟩
 rw [bq];exact hb2
theorem sO {l m:List aC} (hl:gB l) (h:∀x∈l,x∈m):l.length≤m.length:=by
 have key:∀(a b:List (List Nat×Int)),a.Nodup→(∀x∈a,x∈b)→a.length≤b.length:=by
  intro a
  induction a with
  | nil=>intro b _ _;simp
  | cons x a ih =>
   intro b hn hb
   obtain ⟨h1,h2⟩:=List.nodup_cons.1 hn
   have hx:=hb x (by simp)
   have h3:=ih (b.erase x) h2 fun y hy=>(List.mem_erase_of_ne (fun he=>h1 (by rw [←he];exact hy))).2 (hb y (by simp [hy]))
   have h4:=List.length_erase_of_mem hx
   have h5:=List.length_pos_of_mem hx
   simp only [List.length_cons];omega
 have h1:=key (l.map fun x=>(x.d,x.n)) (m.map fun x=>(x.d,x.n)) ?_ ?_
 ·simpa using h1
 ·rw [List.nodup_iff_pairwise_ne]
  refine List.pairwise_map.2 ?_
  have hn:=jM hl
  rw [List.nodup_iff_pairwise_ne] at hn
  refine hn.imp fun {a b} hne he=>hne ?_
  exact cj (il.2 ⟨congrArg Prod.fst he,congrArg Prod.snd he⟩)
 ·intro x hx
  obtain ⟨y,hy,rfl⟩:=List.mem_map.1 hx
  exact List.mem_map.2 ⟨y,h y hy,rfl⟩
theorem G5 (F:aC→Option aG) (met:List aC) (os:List aC) (l:List aG):(os.foldl (iQ F met) l).length≤l.length+os.length:=by
 obtain ⟨m,h1,h2,_⟩:=lH F met os l
 rw [h1,List.length_append];omega
theorem JA (F:aC→Option aG) (met:List aC) (os:List aC) (l:List aG) {i:Nat} (hi:i<l.length):(os.foldl (iQ F met) l)[i]?=l[i]?:=by
 obtain ⟨m,h1,_⟩:=lH F met os l
 rw [h1,List.getElem?_append_left hi]
theorem Mi {P:Program} {N base:Nat} {x:Operand} {a b:Code} {s:Sl} {H:ae} {Q:cV} {v:Bool} (hv:bU s x=.bool v) (h1:v=true→pK P C N base a s H Q) (h2:v=false→pK P C N base b s H Q):pK P C N base (.cond x a b) s H Q:=by
 intro l hr
 cases v with
 | true =>
  obtain ⟨n,e,l',s',H',h3,h4,h5⟩:=h1 rfl l hr
  exact ⟨n+1,e,l',s',H',by simp only [aP];rw [hr.val,hv];exact h3,h4,h5⟩
 | false =>
  obtain ⟨n,e,l',s',H',h3,h4,h5⟩:=h2 rfl l hr
  exact ⟨n+1,e,l',s',H',by simp only [aP];rw [hr.val,hv];exact h3,h4,h5⟩
set_option maxRecDepth 100000 in
set_option maxHeartbeats 8000000 in
theorem EM (S:cC C σ) (hi:b9 σ) {s0:List ag} (P:fa s0) (h8:s0.length≤8) (k k2:SK) {l:List aG} (hl:∀x∈l,x∈dH s0) (hn:l.length≤90000):b8 Tryz.prog C 66 [] [am k (s0.map ag.cells),am k2 (l.map aG.cells)] (am (ic s0 l).1 ((ic s0 l).2.map aC.cells)):=by
 refine aw (S.pureX _ (by decide)) fun H=>zk Tryz.func66 rfl (S.prim _ (by decide)) (by simp) ?_
 unfold Tryz.f66
 obtain ⟨n,n1,n2,_,n4⟩:=qY hi P hl
 have hov:=qq hi P
 have hUl:=pw hi P h8
 have hwk:Kl s0 l≤2^30-2000:=by
  have h1:(dH s0).length*1025≤720000*1025:=Nat.mul_le_mul_right _ hUl
  unfold Kl;omega
 have eF:=fun o=>(nX S hi P h8 k o).eq
 rw [n2]
 refine eD (fun s X=>s 0=am k (s0.map ag.cells)∧s 1=am k2 (l.map aG.cells)∧X=H) (du (by kernel_rfl) (by simp [aE])) ?_
 rintro s X ⟨q0,q1,hX⟩
 refine eD (fun s X=>s 0=am k (s0.map ag.cells)∧s 1=am k2 (l.map aG.cells)∧s 5=.lst [] true∧X=H) (du (by kernel_rfl) (by simp [q0,q1,hX,ah])) ?_
 clear q0 q1 hX
 rintro s X ⟨q0,q1,q5,hX⟩
 refine eD (fun s X=>s 0=am k (s0.map ag.cells)∧s 1=am k2 (l.map aG.cells)∧s 5=.lst [] true∧s 6=.lst [] true∧X=H) (du (by kernel_rfl) (by simp [q0,q1,q5,hX,ah])) ?_
 clear q0 q1 q5 hX
 rintro s X ⟨q0,q1,q5,q6,hX⟩
 refine eD (fun s X=>s 5=am (cD (aU s0) n (qJ l)).out.1 ((cD (aU s0) n (qJ l)).out.2.map aC.cells)) ?_ ?_
 rotate_left
 ·intro s X q5
  refine du (by kernel_rfl) ?_
  simp [q5]
  exact ak (bI (aH aC.closed _))
 refine eD (fun s X=>s 0=am k (s0.map ag.cells)∧s 1=am k2 (l.map aG.cells)∧s 5=.lst [] true∧s 6=.lst [] true∧s 7=.int .i64 (0:Nat)∧X=H) (du (by kernel_rfl) (by simp [q0,q1,q5,q6,hX])) ?_
 clear q0 q1 q5 q6 hX
 rintro s X ⟨q0,q1,q5,q6,q7,hX⟩
 refine n8 ?_
 refine Aq n (fun j s X=>H.length≤X.length∧s 0=am k (s0.map ag.cells)∧yv 172 X (s 1) ((cD (aU s0) j (qJ l)).l.map aG.cells)∧s 5=am (cD (aU s0) j (qJ l)).out.1 ((cD (aU s0) j (qJ l)).out.2.map aC.cells)∧s 6=am (cD (aU s0) j (qJ l)).met.1 ((cD (aU s0) j (qJ l)).met.2.map aC.cells)∧s 7=.int .i64 (cD (aU s0) j (qJ l)).i) ?_ ?_
 ·exact ⟨by rw [hX];exact Nat.le_refl _,q0,.inl ⟨k2,q1⟩,q5,q6,q7⟩
 clear q0 q1 q5 q6 q7 hX
 rintro j s X ⟨hX,q0,q1,q5,q6,q7⟩ hj
 obtain ⟨b1,b2,W⟩:=n4 j hj
 have hsucc:cD (aU s0) (j+1) (qJ l)=ja (aU s0) (cD (aU s0) j (qJ l)):=rfl
 have hend:¬j<n→(cD (aU s0) j (qJ l)).i=(cD (aU s0) j (qJ l)).l.length:=fun h=>by rw [show j=n by omega];exact n1
 have hout:¬j<n→(cD (aU s0) n (qJ l)).out=(cD (aU s0) j (qJ l)).out:=fun h=>by rw [show j=n by omega]
 generalize (cD (aU s0) n (qJ l)).out=R at *
 clear n1 n2 n4
 generalize cD (aU s0) j (qJ l)=a at *
 have hlen:=fun HH=>q1.len (P:=Tryz.prog) (t:=89) (e:=72) (H:=HH) (by simp)
 rw [List.length_map] at hlen
 by_cases h:j<n
 rotate_left
 ·have h1:=hend h
  refine du (by kernel_rfl) ?_
  simp [q5,q7,hlen,h1,hout h]
 have hil:=b2 h
 obtain ⟨x,hx⟩:∃x,x=a.l[a.i]:=⟨_,rfl⟩
 have hx':a.l[a.i]?=some x:=by rw [hx];exact List.getElem?_eq_getElem hil
 have hxU:=W.mem x (by rw [hx];exact List.getElem_mem hil)
 have hxo:=hov x hxU
 have hml:a.met.2.length≤720000:=by
  have h1:=sO (m:=a.l.map fun y=>y.id) W.sm fun z hz=>by
   obtain ⟨y,h1,h2⟩:=(W.met1 z).1 hz
   exact List.mem_map.2 ⟨y,List.mem_of_mem_take h1,h2⟩
  have h2:=sO (m:=(dH s0).map fun y=>y.id) W.sm fun z hz=>by
   obtain ⟨y,h1,h2⟩:=(W.met1 z).1 hz
   exact List.mem_map.2 ⟨y,W.mem y (List.mem_of_mem_take h1),h2⟩
  rw [List.length_map] at h2;omega
 have hol:a.out.2.length≤720000:=by
  have h2:=sO (m:=(dH s0).map fun y=>y.file) W.so fun z hz=>by
   obtain ⟨y,h1,_,h2⟩:=W.outS z hz
   exact List.mem_map.2 ⟨y,W.mem y h1,h2⟩
  rw [List.length_map] at h2;omega
 have eM:=(rm S.toba a.met.2 a.met.1 x.id (by omega)).eq
 rw [show (a.met.2.any fun y=>aB y x.id)=dj a.met.2 x.id from rfl] at eM
 have eI:=fun z=>(mA S.toaV a.met z (by omega)).eq
 have eO:=fun z=>(mA S.toaV a.out z (by omega)).eq
 have hmi:=ui a.met x.id
 have eM2:=fun z=>(rm S.toba (cd a.met x.id).2 (cd a.met x.id).1 z (by omega)).eq
 obtain ⟨p,hp,hF⟩:=q1.atF (P:=Tryz.prog) (t:=89) (e:=72) (i:=a.i) (r:=x.cells) (by simp) kK (by simp [hx']) (by simp)
 obtain ⟨p0,hp0,l0⟩:=hF 0 (by decide)
 obtain ⟨p1,hp1,l1⟩:=hF 33 (by decide)
 obtain ⟨p2,hp2,l2⟩:=hF 34 (by decide)
 have wi:=au hil (by omega)
 refine eD (fun s' X'=>X'=X∧s' 0=s 0∧s' 1=s 1∧s' 5=s 5∧s' 6=s 6∧s' 7=s 7) (du (by kernel_rfl) (by simp [q0,q5,q6,q7,hlen,hil])) ?_
 rintro s1 X1 ⟨rfl,r0,r1,r5,r6,r7⟩
 rw [q0] at r0;rw [q5] at r5;rw [q6] at r6;rw [q7] at r7
 obtain ⟨v,hv⟩:∃v,v=s 1:=⟨_,rfl⟩
 rw [←hv] at r1 q1 hlen hp
 clear q0 q5 q6 q7 hv
 refine eD (fun s' X'=>H.length≤X'.length∧s' 0=am k (s0.map ag.cells)∧s' 7=.int .i64 a.i∧(ja (aU s0) a).i=a.i+1∧yv 172 X' (s' 1) ((ja (aU s0) a).l.map aG.cells)∧s' 5=am (ja (aU s0) a).out.1 ((ja (aU s0) a).out.2.map aC.cells)∧s' 6=am (ja (aU s0) a).met.1 ((ja (aU s0) a).met.2.map aC.cells)) ?_ ?_
 rotate_left
 ·rintro s2 X2 ⟨hX2,t0,t7,ti,t1,t5,t6⟩
  refine du (by kernel_rfl) ?_
  simp [t0,t7,t5,t6,wi,ti,hsucc]
  exact ⟨h,hX2,t1⟩
 refine n8 ?_
 have hst:ja (aU s0) a=if dj a.met.2 x.id then ⟨a.l,a.i+1,a.met,a.out⟩ else if x.kind=7 then ⟨x.over.foldl (iQ (aU s0) (cd a.met x.id).2) a.l,a.i+1,cd a.met x.id,a.out⟩ else ⟨a.l,a.i+1,cd a.met x.id,cd a.out x.file⟩:=by
  unfold ja;rw [hx']
 by_cases hm:dj a.met.2 x.id=true
 ·rw [if_pos hm] at hst
  rw [hm] at eM
  rw [hst]
  refine du (by kernel_rfl) ?_
  simp [r0,r1,r5,r6,r7,hp,hp0,l0,eM]
  exact ⟨hX,q1⟩
 rw [if_neg hm] at hst
 have hm:dj a.met.2 x.id=false:=by simpa using hm
 rw [hm] at eM
 by_cases hk:x.kind=7
 rotate_left
 ·rw [if_neg hk] at hst
  rw [hst]
  refine du (by kernel_rfl) ?_
  simp [r0,r1,r5,r6,r7,hp,hp0,l0,hp1,l1,hp2,l2,eM,eI,eO,hk]
  exact ⟨hX,q1⟩
 rw [if_pos hk] at hst
 rw [hst]
 refine eD (fun s' X'=>X'=X1∧s' 0=am k (s0.map ag.cells)∧s' 1=v∧s' 5=am a.out.1 (a.out.2.map aC.cells)∧s' 6=am a.met.1 (a.met.2.map aC.cells)∧s' 7=.int .i64 a.i) (du (by kernel_rfl) (by simp [r0,r1,r5,r6,r7,hp,hp0,l0,eM])) ?_
 clear r0 r1 r5 r6 r7
 rintro s2 X2 ⟨rfl,r0,r1,r5,r6,r7⟩
 refine eD (fun s' X'=>X'=X2∧s' 0=am k (s0.map ag.cells)∧s' 1=v∧s' 5=am a.out.1 (a.out.2.map aC.cells)∧s' 6=am (cd a.met x.id).1 ((cd a.met x.id).2.map aC.cells)∧s' 7=.int .i64 a.i) (du (by kernel_rfl) (by simp [r0,r1,r5,r6,r7,hp,hp0,l0,eI])) ?_
 clear r0 r1 r5 r6 r7
 rintro s3 X3 ⟨rfl,r0,r1,r5,r6,r7⟩
 refine eD (fun s' X'=>X'=X3∧s' 0=am k (s0.map ag.cells)∧s' 1=v∧s' 5=am a.out.1 (a.out.2.map aC.cells)∧s' 6=am (cd a.met x.id).1 ((cd a.met x.id).2.map aC.cells)∧s' 7=.int .i64 a.i) (du (by kernel_rfl) (by simp [r0,r1,r5,r6,r7,hp,hp1,l1,hk])) ?_
 clear r0 r1 r5 r6 r7
 rintro s1 X1 ⟨rfl,r0,r1,r5,r6,r7⟩
 refine eD (fun s' X'=>X'=X1∧s' 0=am k (s0.map ag.cells)∧s' 1=v∧s' 5=am a.out.1 (a.out.2.map aC.cells)∧s' 6=am (cd a.met x.id).1 ((cd a.met x.id).2.map aC.cells)∧s' 7=.int .i64 a.i∧s' 8=.int .i64 (0:Nat)) (du (by kernel_rfl) (by simp [r0,r1,r5,r6,r7])) ?_
 clear r0 r1 r5 r6 r7
 rintro s1 X1 ⟨rfl,r0,r1,r5,r6,r7,r8⟩
 refine n8 ?_
 refine Aq x.over.length (fun m s X'=>H.length≤X'.length∧s 0=am k (s0.map ag.cells)∧s 7=.int .i64 a.i∧s 8=.int .i64 m∧s 5=am a.out.1 (a.out.2.map aC.cells)∧s 6=am (cd a.met x.id).1 ((cd a.met x.id).2.map aC.cells)∧yv 172 X' (s 1) (((x.over.take m).foldl (iQ (aU s0) (cd a.met x.id).2) a.l).map aG.cells)) ?_ ?_
 ·exact ⟨hX,r0,r7,r8,r5,r6,by rw [r1,List.take_zero];exact q1⟩
 clear r0 r1 r5 r6 r7 r8 hp hF q1 hlen
 rintro m s2 X2 ⟨hX2,t0,t7,t8,t5,t6,t1⟩ hm2
 have hl2i:=JA (aU s0) (cd a.met x.id).2 (x.over.take m) a.l hil
 rw [hx'] at hl2i
 have hl2n:=G5 (aU s0) (cd a.met x.id).2 (x.over.take m) a.l
 have hl2e:m=x.over.length→x.over.foldl (iQ (aU s0) (cd a.met x.id).2) a.l=(x.over.take m).foldl (iQ (aU s0) (cd a.met x.id).2) a.l:=fun h=>by rw [h,List.take_length]
 have hl2s:∀h:m<x.over.length,(x.over.take (m+1)).foldl (iQ (aU s0) (cd a.met x.id).2) a.l=iQ (aU s0) (cd a.met x.id).2 ((x.over.take m).foldl (iQ (aU s0) (cd a.met x.id).2) a.l) x.over[m]:=fun h=>kb h
 generalize (x.over.take m).foldl (iQ (aU s0) (cd a.met x.id).2) a.l=l2 at *
 have hl2n:l2.length≤2^30:=by simp at hl2n;omega
 obtain ⟨p,hp,hF⟩:=t1.atF (P:=Tryz.prog) (t:=89) (e:=72) (i:=a.i) (r:=x.cells) (by simp) kK (by simp [hl2i]) (by simp)
 obtain ⟨p3,hp3,l3⟩:=hF 171 (by decide)
 by_cases hml:m<x.over.length
 rotate_left
 ·have hm':m=x.over.length:=by omega
  rw [hl2e hm']
  subst hm'
  refine du (by kernel_rfl) ?_
  simp [t0,t7,t8,t5,t6,hp,hp3,l3]
  exact ⟨hX2,t1⟩
 have hl2s:=hl2s hml
 obtain ⟨o,ho⟩:∃o,o=x.over[m]:=⟨_,rfl⟩
 rw [←ho] at hl2s
 have eF:=eF o
 refine eD (fun s' X'=>X'=X2∧s' 0=s2 0∧s' 1=s2 1∧s' 5=s2 5∧s' 6=s2 6∧s' 7=s2 7∧s' 8=s2 8) (du (by kernel_rfl) (by simp [t0,t7,t8,t5,t6,hp,hp3,l3,hml])) ?_
 rintro s3 X3 ⟨rfl,u0,u1,u5,u6,u7,u8⟩
 rw [t0] at u0;rw [t5] at u5;rw [t6] at u6;rw [t7] at u7;rw [t8] at u8
 obtain ⟨v2,hv2⟩:∃v,v=s2 1:=⟨_,rfl⟩
 rw [←hv2] at u1 t1 hp
 clear t0 t5 t6 t7 t8 hv2
 refine eD (fun s' X'=>H.length≤X'.length∧s' 0=am k (s0.map ag.cells)∧s' 7=.int .i64 a.i∧s' 8=.int .i64 m∧s' 5=am a.out.1 (a.out.2.map aC.cells)∧s' 6=am (cd a.met x.id).1 ((cd a.met x.id).2.map aC.cells)∧yv 172 X' (s' 1) ((iQ (aU s0) (cd a.met x.id).2 l2 o).map aG.cells)) ?_ ?_
 rotate_left
 ·rintro s4 X4 ⟨hX4,w0,w7,w8,w5,w6,w1⟩
  refine du (by kernel_rfl) ?_
  simp [w0,w7,w8,w5,w6,au hml (by omega),hl2s]
  exact ⟨hml,hX4,w1⟩
 refine n8 ?_
 cases hf:aU s0 o with
 | none =>
  have hpw:iQ (aU s0) (cd a.met x.id).2 l2 o=l2:=by unfold iQ;rw [hf]
  rw [hf] at eF
  rw [hpw]
  refine du (by kernel_rfl) ?_
  simp [u0,u1,u5,u6,u7,u8,hp,hp3,l3,hml,←ho,eF,ao,an]
  exact ⟨hX2,by omega,t1.app _⟩
 | some y =>
  rw [hf] at eF
  have hpw:iQ (aU s0) (cd a.met x.id).2 l2 o=if dj (cd a.met x.id).2 y.id then l2 else l2++[y]:=by unfold iQ;rw [hf]
  have eM2:=(rm S.toba (cd a.met x.id).2 (cd a.met x.id).1 y.id (by omega)).eq
  rw [show ((cd a.met x.id).2.any fun z=>aB z y.id)=dj (cd a.met x.id).2 y.id from rfl] at eM2
  rw [hpw]
  refine eD (fun s' X'=>X'=X3++[.rows 172 0 [y.cells]]∧s' 0=am k (s0.map ag.cells)∧s' 7=.int .i64 a.i∧s' 8=.int .i64 m∧s' 5=am a.out.1 (a.out.2.map aC.cells)∧s' 6=am (cd a.met x.id).1 ((cd a.met x.id).2.map aC.cells)∧s' 1=v2∧s' 9=.ptr X3.length 0 172 0 0∧s' 10=.bool true) (du (by kernel_rfl) (by simp [u0,u1,u5,u6,u7,u8,hp,hp3,l3,hml,←ho,eF,ao];exact hX2)) ?_
  clear u0 u1 u5 u6 u7 u8
  rintro s4 X4 ⟨hX4,u0,u7,u8,u5,u6,u1,u9,u10⟩
  have hr:ax X4 X3.length 0 172 0=some y.cells:=by rw [hX4];simp [ax]
  have t4:yv 172 X4 v2 (l2.map aG.cells):=by rw [hX4];exact t1.app _
  have hH4:H.length≤X4.length:=by rw [hX4];simp;omega
  clear hX4
  cases hh:dj (cd a.met x.id).2 y.id with
  | true =>
   rw [hh] at eM2
   refine du (by kernel_rfl) ?_
   simp [u0,u1,u5,u6,u7,u8,u9,u10,hr,an,eM2]
   exact ⟨hH4,t4⟩
  | false =>
   rw [hh] at eM2
   obtain ⟨v5,X5,v6,X6,a5,⟨J5,hJ5⟩,a6,hl6,t6⟩:=t4.snoc (P:=Tryz.prog) (base:=H.length) (ts:=#[89,89]) (e:=72) (e':=72) (r:=y.cells) (by simp) (by simp) kK od (by simp) (by decide) hH4 (by simp) (by simp) (by simp;omega)
   have hr5:ax X5 X3.length 0 172 0=some y.cells:=by rw [hJ5];exact bM hr _
   have hH6:H.length≤X6.length:=by rw [hJ5] at hl6;simp at hl6;omega
   have t6:yv 172 X6 v6 ((l2++[y]).map aG.cells):=by rw [List.map_append];exact t6
   subst hJ5
   refine eD (fun s' X'=>X'=X4∧s' 0=s4 0∧s' 1=s4 1∧s' 5=s4 5∧s' 6=s4 6∧s' 7=s4 7∧s' 8=s4 8∧s' 9=s4 9∧s' 76=.bool true) (du (by kernel_rfl) (by simp [u0,u1,u5,u6,u7,u8,u9,u10,hr,an,eM2])) ?_
   rintro s5 X5 ⟨rfl,z0,z1,z5,z6,z7,z8,z9,z76⟩
   rw [u0] at z0;rw [u1] at z1;rw [u5] at z5;rw [u6] at z6;rw [u7] at z7;rw [u8] at z8;rw [u9] at z9
   refine Mi (v:=true) z76 (fun _=>Ap (by kernel_rfl) ?_) (fun h=>by cases h)
   simp [z0,z1,z5,z6,z7,z8,z9,hr,hr5,ah,aq,a5,a6]
   refine ⟨⟨hH6,by simpa using t6⟩,?_⟩
   refine xm (L:=[(3,0),(3,1),(3,2),(3,3),(3,4),(3,5)]) (by kernel_rfl) ?_
   simp [xl,LR,z0,z1,z5,z6,z7,z8,z9,hr,hr5]
end Go.Proofs.Ev
namespace Go.Proofs.Ev
open Go.Proofs
variable {C:bD} {σ:aZ}
set_option maxHeartbeats 1000000 in
theorem yg (S:cC C σ) (hi:b9 σ) {s0:List ag} (P:fa s0) (h8:s0.length≤8) (k:SK) {d:ar} (hd:fU s0 d.d=true):b8 Tryz.prog C 31 [] [am k (s0.map ag.cells),.agg d.cells] (am (ic s0 (dE (bY s0 d.d))).1 ((ic s0 (dE (bY s0 d.d))).2.map aC.cells)):=by
 refine aw (S.pureX _ (by decide)) fun H=>aj Tryz.func31 rfl (S.prim _ (by decide)) (by simp) (by kernel_rfl) ?_
 unfold Tryz.f31
 obtain ⟨hp,x,hx,_,h2⟩:=bX P.good hd
 have eg:=(nY S.toaV s0 k d (by omega)).eq
 have ea:=(mz S.toaV (bY s0 d.d) hp.fit).eq
 have hal:(dE (bY s0 d.d)).length≤90000:=by
  have h:=congrArg List.length (mc (σ:=σ) hi hp (by rw [←h2];exact P.free x hx))
  rw [List.length_map,List.length_map] at h
  rw [h];exact gc hp
 have ef:=(EM S hi P h8 k (nQ (bY s0 d.d)) (m5 P hd) hal).eq
 rw [hd] at eg
 generalize ic s0 (dE (bY s0 d.d))=R at *
 generalize dE (bY s0 d.d)=A at *
 generalize nQ (bY s0 d.d)=KA at *
 obtain ⟨pc,hpc⟩:∃pc,pc=(bY s0 d.d).cells:=⟨_,rfl⟩
 have hpl:pc.length=5:=by rw [hpc];simp
 have hpt:pc.take 5=pc:=List.take_of_length_le (by omega)
 have hpf:∀x∈pc,x.leaf=true:=by rw [hpc];exact List.all_eq_true.1 (bY s0 d.d).leafs
 rw [←hpc] at eg ea
 simp [aE,eg,ea,ef,ao,aD,hpl,hpt]
 exact ⟨hpf,ak (bI (aH aC.closed _))⟩
theorem zh {α:Type} (p:α→Bool) (l:List α) {i:Nat} (h:i<l.length):(l.take (i+1)).filter p=(l.take i).filter p++if p l[i]=true then [l[i]] else []:=by
 rw [List.take_add_one,List.getElem?_eq_getElem h,List.filter_append]
 simp [List.filter_cons]
def Ia (s:List ag) (file:aC):List ar:=(d9 s s.length []).filter fun d=>dj (ic s (dE (bY s d.d))).2 file
theorem sr.push {P:Program} {base:Nat} {ts:Array TypeId} {e e':TypeId} {sz by_ n:Nat} (h0:(ts[0]?).bind P.underlying=some (.slice e)) (h1:(ts[1]?).bind P.underlying=some (.slice e')) (hs:br P e=some sz) (hb:bytesOf P e=some by_)
 (hz:(aN P e).map (fun z=>z.cells.length)=some sz) (hp:0<sz) (hbn:base≤n+1) {X:ae} {blk:bL} (hX:X[n]?=some blk) {v:AV} {rows:List (List AV)} {r:List AV} (hv:sr (n+1) sz X v rows) (hr:r.length=sz) (hbound:(rows.length+1)*(by_+1)≤2^45) :
 ∃v' X',bg P base X ts v.denil (.lst [r] true)=some (v',X')∧sr (n+1) sz X' v' (rows++[r])∧X'[n]?=some blk:=by
 have hl:=(List.getElem?_eq_some_iff.1 hX).1
 obtain ⟨v',X',ha,hS',_,_,hk⟩:=hv.append (P:=P) (base:=base) (ts:=ts) (ys:=[r]) (x:=.lst [r] true) h0 h1 hs hb hz hp hbn (by omega) rfl (by simpa using hr) (by simp) hbound
 refine ⟨v',X',ha,hS',(hk _ _ hX fun b g l h=>?_).1⟩
 rcases hv with ⟨_,hv⟩ | ⟨_,b2,g2,hv,_,hlow⟩
 ·rw [hv] at h;cases h
 ·rw [hv] at h;cases h;omega
set_option maxHeartbeats 4000000 in
theorem Hs (S:cC C σ) (hi:b9 σ) (hd:∀l,(σ.d l).Perm l) {s0:List ag} (P:fa s0) (h8:s0.length≤8) (k:SK) (file:aC):b8 Tryz.prog C 9 [] [am k (s0.map ag.cells),.agg file.cells] (if eV s0 file 1=0 then .tup [am (gV (Ia s0 file)) ((Ia s0 file).map ar.cells),.int .i64 0] else .tup [.nils,.int .i64 (eV s0 file 1)]):=by
 refine aw (S.pureX _ (by decide)) fun H=>aj Tryz.func9 rfl (S.prim _ (by decide)) (by simp) (by kernel_rfl) ?_
 unfold Tryz.f9
 have ho:=fl hd P.asc P.good.1 s0.length []
 have hh:=jn (σ:=σ) s0
 have hol:=eQ (σ:=σ) s0 s0.length []
 rw [←ho] at hh hol
 have e0:=(uE S hi P h8 k file).eq
 have e1:=(jy S.toaV s0 k ⟨h8,fun x hx=>(P.good.1 x hx).fit⟩).eq
 by_cases he:eV s0 file 1=0
 rotate_left
 ·rw [if_neg he]
  simp [aE,e0,he]
  exact bb (by simp) (by simp)
 rw [if_pos he]
 rw [he] at e0
 unfold Ia
 have eC:=fun (d:ar) (hdL:d∈d9 s0 s0.length [])=>(yg S hi P h8 k (hh d hdL)).eq
 have hfl:∀d∈d9 s0 s0.length [],(ic s0 (dE (bY s0 d.d))).2.length≤2^20:=fun d hdL=>by
  obtain ⟨n,_,n2,_,n4⟩:=qY hi P (m5 P (hh d hdL))
  have W:=(n4 n (Nat.le_refl _)).2.2
  have h2:=sO (m:=(dH s0).map fun y=>y.file) W.so fun z hz=>by
   obtain ⟨y,h1,_,h2⟩:=W.outS z hz
   exact List.mem_map.2 ⟨y,W.mem y h1,h2⟩
  have:=pw hi P h8
  rw [n2];rw [List.length_map] at h2;omega
 obtain ⟨L,hL⟩:∃L,L=d9 s0 s0.length []:=⟨_,rfl⟩
 rw [←hL] at e1 eC hfl hol ⊢
 obtain ⟨F,hF⟩:∃F,F=fun d:ar=>ic s0 (dE (bY s0 d.d)):=⟨_,rfl⟩
 have hF':∀d:ar,ic s0 (dE (bY s0 d.d))=F d:=fun d=>by rw [hF]
 simp only [hF'] at eC hfl ⊢
 simp only [List.length_nil,Nat.zero_add] at hol
 simp [aE,e0,e1,ah]
 refine ay L.length (fun i s X=>s 0=am k (s0.map ag.cells)∧s 3=.ptr H.length 0 33 0 0∧s 7=am (gV L) (L.map ar.cells)∧s 9=.int .i64 i∧X[H.length]?=some (.rows 33 0 [file.cells])∧sr (H.length+1) 32 X (s 8) (((L.take i).filter fun d=>dj (F d).2 file).map ar.cells)) ?_ ?_
 ·exact ⟨rfl,rfl,rfl,rfl,by simp,.inl ⟨by simp,rfl⟩⟩
 rintro i s X ⟨q0,q3,q7,q9,hb,hS⟩ hi'
 have hXl:=(List.getElem?_eq_some_iff.1 hb).1
 by_cases h:i<L.length
 rotate_left
 ·have h':i=L.length:=by omega
  subst h'
  rw [List.take_length] at hS
  simp [q0,q3,q7,q9]
  have hf:=hS.freeze (k:=H.length) (d:=1) (by omega) (aH ar.closed _)
  rw [qa] at hf
  exact bb hf (by simp)
 have hdL:L[i]∈L:=List.getElem_mem h
 have eC:=eC _ hdL
 have eI:=(rm S.toba (F L[i]).2 (F L[i]).1 file (hfl _ hdL)).eq
 rw [show ((F L[i]).2.any fun y=>aB y file)=dj (F L[i]).2 file from rfl] at eI
 have hsn:=zh (fun d=>dj (F d).2 file) L h
 have hr:ax X H.length 0 33 0=some file.cells:=by simp [ax,hb]
 have hfl2:=List.length_filter_le (fun d=>dj (F d).2 file) (L.take i)
 have htl:(L.take i).length≤8:=by simp;omega
 cases hh2:dj (F L[i]).2 file with
 | false =>
  rw [hh2] at eI hsn
  simp [q0,q3,q7,q9,h,eC,eI,hr,au h (by omega)]
  exact ⟨hb,by rw [hsn];simpa using hS⟩
 | true =>
  rw [hh2,if_pos rfl] at hsn
  rw [hh2] at eI
  obtain ⟨v',X',ha,hS',hb'⟩:=hS.push (P:=Tryz.prog) (base:=H.length) (ts:=#[34,34]) (e:=25) (e':=25) (r:=L[i].cells)
   (by simp) (by simp) mD AL (by simp [show aJ.length=32 from rfl]) (by decide) (by omega) hb (by simp) (by simp;omega)
  simp [q0,q3,q7,q9,h,eC,eI,hr,au h (by omega),ah,aq,ha]
  exact ⟨rfl,hb',by rw [hsn,List.map_append];exact hS'⟩
end Go.Proofs.Ev
namespace Go.Proofs.Ev
open Go.Proofs
variable {C:bD} {σ:aZ}
theorem uc (file:aC) (l:List aG):cT file (l.map kj)=cT file l:=by
 unfold cT
 rw [List.filter_map,List.map_map];rfl
def A4 (s:List ag) (file:aC):List mT:=cT file (cu s (d9 s s.length []))
set_option maxHeartbeats 4000000 in
theorem Hh (S:cC C σ) (hi:b9 σ) (hd:∀l,(σ.d l).Perm l) {s0:List ag} (P:fa s0) (h8:s0.length≤8) (k:SK) (file:aC):b8 Tryz.prog C 11 [] [am k (s0.map ag.cells),.agg file.cells] (if eV s0 file 1=0 then .tup [am (gV (A4 s0 file)) ((A4 s0 file).map mT.cells),.int .i64 0] else .tup [.nils,.int .i64 (eV s0 file 1)]):=by
 refine aw (S.pureX _ (by decide)) fun H=>aj Tryz.func11 rfl (S.prim _ (by decide)) (by simp) (by kernel_rfl) ?_
 unfold Tryz.f11
 have e:=gZ S.toaz
 have ho:=fl hd P.asc P.good.1 s0.length []
 have hh:=jn (σ:=σ) s0
 have hol:=eQ (σ:=σ) s0 s0.length []
 rw [←ho] at hh hol
 have e0:=(uE S hi P h8 k file).eq
 have e1:=(jy S.toaV s0 k ⟨h8,fun x hx=>(P.good.1 x hx).fit⟩).eq
 by_cases he:eV s0 file 1=0
 rotate_left
 ·rw [if_neg he]
  simp [aE,e0,he]
  exact bb (by simp) (by simp)
 rw [if_pos he]
 rw [he] at e0
 unfold A4
 obtain ⟨L,hL⟩:∃L,L=d9 s0 s0.length []:=⟨_,rfl⟩
 rw [←hL] at e1 hh hol ⊢
 simp only [List.length_nil,Nat.zero_add] at hol
 simp [aE,e0,e1,ah]
 refine ay L.length (fun i s X=>s 0=am k (s0.map ag.cells)∧s 3=.ptr H.length 0 33 0 0∧s 7=am (gV L) (L.map ar.cells)∧s 9=.int .i64 i∧X[H.length]?=some (.rows 33 0 [file.cells])∧sr (H.length+1) 67 X (s 8) ((cT file (cu s0 (L.take i))).map mT.cells)) ?_ ?_
 ·exact ⟨rfl,rfl,rfl,rfl,by simp,.inl ⟨by simp [cu,cT],rfl⟩⟩
 rintro i s X ⟨q0,q3,q7,q9,hb,hS⟩ hi'
 have hXl:=(List.getElem?_eq_some_iff.1 hb).1
 by_cases h:i<L.length
 rotate_left
 ·have h':i=L.length:=by omega
  subst h'
  rw [List.take_length] at hS
  simp [q0,q3,q7,q9]
  have hf:=hS.freeze (k:=H.length) (d:=1) (by omega) (aH mT.closed _)
  rw [qa] at hf
  exact bb hf (by simp)
 obtain ⟨d,hde⟩:∃d,d=L[i]:=⟨_,rfl⟩
 have hdi:L[i]?=some d:=by rw [hde];exact List.getElem?_eq_getElem h
 have hdL:fU s0 d.d=true:=hh d (List.mem_of_getElem? hdi)
 obtain ⟨hp,_⟩:=bX P.good hdL
 have eg:=(nY S.toaV s0 k d (by omega)).eq
 have ea:=(mz S.toaV (bY s0 d.d) hp.fit).eq
 rw [hdL] at eg
 have hlen:=kq hi P (L:=L.take (i+1)) (fun d hd=>hh d (List.mem_of_mem_take hd))
 have hlt:(L.take (i+1)).length≤8:=by simp;omega
 have hll:(cu s0 (L.take (i+1))).length≤720000:=by
  have:90000*(L.take (i+1)).length≤90000*8:=Nat.mul_le_mul_left _ hlt
  omega
 have hsn:=rY (s:=s0) hdi
 rw [hsn,List.length_append] at hll
 obtain ⟨A,hAe⟩:∃A,A=dE (bY s0 d.d):=⟨_,rfl⟩
 rw [←hAe] at hsn hll ea
 obtain ⟨pc,hpc⟩:∃pc,pc=(bY s0 d.d).cells:=⟨_,rfl⟩
 have hpl:pc.length=5:=by rw [hpc];simp
 have hpt:pc.take 5=pc:=List.take_of_length_le (by omega)
 have hpf:∀x∈pc,x.leaf=true:=by rw [hpc];exact List.all_eq_true.1 (bY s0 d.d).leafs
 rw [←hpc] at eg ea
 generalize cu s0 (L.take i)=O at *
 generalize nQ (bY s0 d.d)=KA at *
 simp [q0,q3,q7,q9,h,←hde,eg,ea,ao,aD,hpl,hpt]
 refine ⟨⟨by omega,hpf⟩,?_⟩
 refine ay A.length (fun m s X=>s 0=am k (s0.map ag.cells)∧s 3=.ptr H.length 0 33 0 0∧s 7=am (gV L) (L.map ar.cells)∧s 9=.int .i64 i∧s 12=am KA (A.map aG.cells)∧s 14=.int .i64 m∧X[H.length]?=some (.rows 33 0 [file.cells])∧sr (H.length+1) 67 X (s 8) ((cT file (O++A.take m)).map mT.cells)) ?_ ?_
 ·refine ⟨q0,q3,q7,q9,rfl,rfl,?_,?_⟩
  ·rw [List.getElem?_append_left hXl];exact hb
  ·rw [List.take_zero,List.append_nil];exact hS.app _
 clear q0 q3 q7 q9 hb hS hXl
 rintro m s X ⟨q0,q3,q7,q9,q12,q14,hb,hS⟩ hm
 have hXl:=(List.getElem?_eq_some_iff.1 hb).1
 by_cases hml:m<A.length
 rotate_left
 ·have hm':m=A.length:=by omega
  subst hm'
  rw [List.take_length] at hS
  simp [q0,q3,q7,q9,q12,q14,au h (by omega)]
  exact ⟨h,hb,by rw [hsn];exact hS⟩
 have hr:ax X H.length 0 33 0=some file.cells:=by simp [ax,hb]
 have hfs:=qe file (O++A.take m) A[m]
 rw [List.append_assoc,show A.take m++[A[m]]=A.take (m+1) by rw [List.take_add_one,List.getElem?_eq_getElem hml];rfl] at hfs
 have hfl:=nq file (O++A.take m)
 have hfl2:(cT file (O++A.take m)).length≤720000:=by simp at hfl;omega
 generalize cT file (O++A.take m)=FF at *
 obtain ⟨x,hx⟩:∃x,x=A[m]:=⟨_,rfl⟩
 rw [←hx] at hfs
 by_cases h2:x.kind=2
 rotate_left
 ·have h2b:(x.kind==2)=false:=by simpa using h2
  simp [q0,q3,q7,q9,q12,q14,hml,←hx,hr,h2b,an,au hml (by omega)]
  exact ⟨hb,by rw [hfs,if_neg (fun h=>h2 h.1),List.append_nil];exact hS⟩
 cases hs:aB x.file file with
 | false =>
  simp [q0,q3,q7,q9,q12,q14,hml,←hx,hr,h2,an,e,hs,au hml (by omega)]
  exact ⟨hb,by rw [hfs,if_neg (fun h=>by rw [hs] at h;cases h.2),List.append_nil];exact hS⟩
 | true =>
  obtain ⟨v',X',ha,hS',hb'⟩:=hS.push (P:=Tryz.prog) (base:=H.length) (ts:=#[37,37]) (e:=86) (e':=86) (r:=(mr x).cells)
   (by simp) (by simp) Mq ND (by simp) (by decide) (by omega) hb (by simp) (by simp;omega)
  have nb:=zz x
  obtain ⟨nc,hnc⟩:∃nc,nc=(mr x).cells:=⟨_,rfl⟩
  rw [←hnc] at nb ha hS'
  have hncl:nc.length=67:=by rw [hnc];simp
  have hnca:∀x∈nc,x.leaf=true:=by rw [hnc];exact List.all_eq_true.1 (mr x).leafs
  simp [-NA,q0,q3,q7,q9,q12,q14,hml,←hx,hr,h2,an,e,hs,nb,hncl,hnca,ah,aq,ha]
  rw [aL (h:=by kernel_rfl)]
  simp [q0,q3,q7,q9,q12,q14,au hml (by omega)]
  exact ⟨hnca,hml,hb',by rw [hfs,if_pos ⟨h2,hs⟩,List.map_append,List.map_singleton,←hnc];exact hS'⟩
theorem E7 (line:aC) (a:(Bool×Bool)×List gG) (d:ar) (kl:List aC):(oL line a d kl).2.length≤a.2.length+2:=by
 unfold oL
 generalize hb:(if d.d=line.d then ((true,true),a.2++[⟨1,d,line⟩]) else a:(Bool×Bool)×List gG)=b
 have h:b.2.length≤a.2.length+1:=by
  rw [←hb];split<;>simp
 show (if b.1.1=false then b else if b.1.2=true∧kl.length≠0 then ((b.1.1,false),b.2++[⟨2,d,kl.getD 0 line⟩]) else if b.1.2=false∧kl.length=0 then ((b.1.1,true),b.2++[⟨3,d,line⟩]) else b).2.length≤_
 by_cases h1:b.1.1=false
 ·rw [if_pos h1];omega
 rw [if_neg h1]
 by_cases h2:b.1.2=true∧kl.length≠0
 ·rw [if_pos h2];simp;omega
 rw [if_neg h2]
 by_cases h3:b.1.2=false∧kl.length=0
 ·rw [if_pos h3];simp;omega
 ·rw [if_neg h3];omega
theorem uz (s:List ag) (line:aC) (L:List ar):∀n,(mw s line L n).2.length≤2*n
 | 0=>by simp [mw]
 | n+1=>by
  have ih:=uz s line L n
  unfold mw
  split
  ·rename_i d _
   have:=E7 line (mw s line L n) d (ju (cL s (L.take (n+1))) line)
   omega
  ·omega
def LF (s:List ag) (line:aC):List gG:=(mw s line (d9 s s.length []) (d9 s s.length []).length).2
set_option maxRecDepth 100000 in
set_option maxHeartbeats 8000000 in
theorem JN (S:cC C σ) (hi:b9 σ) (hd:∀l,(σ.d l).Perm l) {s0:List ag} (P:fa s0) (h8:s0.length≤8) (k:SK) (line:aC):b8 Tryz.prog C 7 [] [am k (s0.map ag.cells),.agg line.cells] (if eV s0 line 5=0 then .tup [am (gV (LF s0 line)) ((LF s0 line).map gG.cells),.int .i64 0] else .tup [.nils,.int .i64 (eV s0 line 5)]):=by
 refine aw (S.pureX _ (by decide)) fun H=>aj Tryz.func7 rfl (S.prim _ (by decide)) (by simp) (by kernel_rfl) ?_
 unfold Tryz.f7
 have e:=fun d:ar=>oW S.toaz d.d line.d d.h line.h
 have ho:=fl hd P.asc P.good.1 s0.length []
 have hh:=jn (σ:=σ) s0
 have hol:=eQ (σ:=σ) s0 s0.length []
 rw [←ho] at hh hol
 have e0:=(nX S hi P h8 k line).eq
 have e1:=(jy S.toaV s0 k ⟨h8,fun x hx=>(P.good.1 x hx).fit⟩).eq
 cases hf:aU s0 line with
 | none =>
  have he:eV s0 line 5=7:=by unfold eV;rw [hf]
  rw [he,if_neg (by decide)]
  rw [hf] at e0
  simp [aE,e0,ao]
  exact bb (by simp) (by simp)
 | some x =>
 rw [hf] at e0
 by_cases hk5:x.kind=5
 rotate_left
 ·have he:eV s0 line 5=8:=by unfold eV;rw [hf];simp [hk5]
  rw [he,if_neg (by decide)]
  simp [aE,e0,ao,hk5]
  exact bb (by simp) (by simp)
 have he:eV s0 line 5=0:=by unfold eV;rw [hf];simp [hk5]
 rw [he,if_pos rfl]
 unfold LF
 obtain ⟨L,hL⟩:∃L,L=d9 s0 s0.length []:=⟨_,rfl⟩
 rw [←hL] at e1 hh hol ⊢
 simp only [List.length_nil,Nat.zero_add] at hol
 simp [aE,e0,e1,ao,hk5,ah]
 refine ay L.length (fun i s X=>s 0=am k (s0.map ag.cells)∧s 3=.ptr H.length 0 33 0 0∧s 8=am (gV L) (L.map ar.cells)∧s 12=.int .i64 i∧s 10=.bool (mw s0 line L i).1.1∧s 11=.bool (mw s0 line L i).1.2∧X[H.length]?=some (.rows 33 0 [line.cells])∧sr (H.length+1) 66 X (s 9) ((mw s0 line L i).2.map gG.cells)) ?_ ?_
 ·exact ⟨rfl,rfl,rfl,rfl,rfl,rfl,by simp,.inl ⟨rfl,rfl⟩⟩
 rintro i s X ⟨q0,q3,q8,q12,q10,q11,hb,hS⟩ hi'
 have hXl:=(List.getElem?_eq_some_iff.1 hb).1
 by_cases h:i<L.length
 rotate_left
 ·have h':i=L.length:=by omega
  subst h'
  simp [q0,q3,q8,q12]
  have hf:=hS.freeze (k:=H.length) (d:=1) (by omega) (aH gG.closed _)
  rw [qa] at hf
  exact bb hf (by simp)
 obtain ⟨d,hde⟩:∃d,d=L[i]:=⟨_,rfl⟩
 have e:bP Tryz.prog C .eql 25 (.agg d.cells) (.agg (dig line.d))=some (.bool (decide (d.d=line.d))):=e d
 have hdi:L[i]?=some d:=by rw [hde];exact List.getElem?_eq_getElem h
 have hrec:mw s0 line L (i+1)=oL line (mw s0 line L i) d (ju (cL s0 (L.take (i+1))) line):=by rw [mw,hdi]
 have hev:=uz s0 line L i
 have hev2:(mw s0 line L i).2.length≤16:=by omega
 obtain ⟨x1,hx1⟩:=sN (P:=Tryz.prog) (t:=34) (e:=25) (k:=gV L) (rows:=L.map ar.cells) (j:=i+1) (K:=.i64) (by simp) mD (by simp) (by simp;omega)
 rw [←List.map_take] at hx1
 have hxs:AV.lst ((L.take (i+1)).map ar.cells) x1=am (if x1 then .exact else .loose) ((L.take (i+1)).map ar.cells):=by cases x1<;>cases (L.take (i+1)).map ar.cells<;>rfl
 have ekp:=(EU S s0 (L.take (i+1)) k (if x1 then .exact else .loose) (by omega) (by simp;omega)).eq
 rw [←hxs] at ekp
 have hkl:(cL s0 (L.take (i+1))).length≤8:=by
  have:=List.length_filter_le (fun x:ag=>dg (L.take (i+1)) x.id.d) s0
  unfold cL;omega
 obtain ⟨KK,hKK⟩:=yc S hi hd (P.keep (L.take (i+1))) hkl (gV (cL s0 (L.take (i+1)))) line
 have eKl:=hKK.eq
 clear hKK hkl hev
 generalize mw s0 line L i=a at *
 generalize ju (cL s0 (L.take (i+1))) line=kl at *
 generalize cL s0 (L.take (i+1))=kp at *
 generalize (L.take (i+1)).map ar.cells=tk at *
 obtain ⟨b,hbe⟩:∃b:(Bool×Bool)×List gG,b=if d.d=line.d then ((true,true),a.2++[⟨1,d,line⟩]) else a:=⟨_,rfl⟩
 have hst:oL line a d kl=if b.1.1=false then b else if b.1.2=true∧kl.length≠0 then ((b.1.1,false),b.2++[⟨2,d,kl.getD 0 line⟩]) else if b.1.2=false∧kl.length=0 then ((b.1.1,true),b.2++[⟨3,d,line⟩]) else b:=by rw [hbe];rfl
 have hbl:b.2.length≤17:=by rw [hbe];split
                            ·simp;omega
                            ·omega
 have wi:IntKind.i64.wrap ((i:Int)+1)=((i+1:Nat):Int):=au h (by omega)
 obtain ⟨i1,hi1⟩:∃i1,i1=i+1:=⟨_,rfl⟩
 rw [←hi1] at wi hx1
 have hr:ax X H.length 0 33 0=some line.cells:=by simp [ax,hb]
 have push:=fun {X:ae} {v:AV} {rows:List (List AV)} (z:gG) (hb:X[H.length]?=some (.rows 33 0 [line.cells])) (hv:sr (H.length+1) 66 X v rows) (hl:rows.length≤20)=>hv.push (P:=Tryz.prog) (base:=H.length) (ts:=#[30,30]) (e:=62) (e':=62) (r:=z.cells)
  (by simp) (by simp) Mp NC (by simp [show aJ.length=32 from rfl]) (by decide) (by omega) hb (by simp) (by omega)
 refine cut (fun s' X'=>X'=X∧s' 0=am k (s0.map ag.cells)∧s' 3=.ptr H.length 0 33 0 0∧s' 8=am (gV L) (L.map ar.cells)∧s' 12=.int .i64 i∧s' 10=.bool a.1.1∧s' 11=.bool a.1.2∧s' 9=s 9) ?_ ?_
 ·simp [q0,q3,q8,q12,q10,q11,h]
 obtain ⟨v,hv⟩:∃v,v=s 9:=⟨_,rfl⟩
 rw [←hv] at hS ⊢
 clear q0 q3 q8 q12 q10 q11 hv
 rintro s1 X1 ⟨rfl,q0,q3,q8,q12,q10,q11,q9⟩
 refine cut (fun s' X'=>s' 0=am k (s0.map ag.cells)∧s' 3=.ptr H.length 0 33 0 0∧s' 8=am (gV L) (L.map ar.cells)∧s' 12=.int .i64 i∧s' 10=.bool (oL line a d kl).1.1∧s' 11=.bool (oL line a d kl).1.2∧X'[H.length]?=some (.rows 33 0 [line.cells])∧sr (H.length+1) 66 X' (s' 9) ((oL line a d kl).2.map gG.cells)) ?_ ?_
 rotate_left
 ·rintro s2 X2 ⟨q0,q3,q8,q12,q10,q11,hb2,hS2⟩
  simp [q0,q3,q8,q12,q10,q11,wi,hrec,hi1]
  exact ⟨h,hb2,hS2⟩
 rw [hst,fI]
 refine cut (fun s' X'=>s' 0=am k (s0.map ag.cells)∧s' 3=.ptr H.length 0 33 0 0∧s' 8=am (gV L) (L.map ar.cells)∧s' 12=.int .i64 i∧s' 10=.bool b.1.1∧s' 11=.bool b.1.2∧X'[H.length]?=some (.rows 33 0 [line.cells])∧sr (H.length+1) 66 X' (s' 9) (b.2.map gG.cells)) ?_ ?_
 ·by_cases hdl:d.d=line.d
  ·rw [if_pos hdl] at hbe
   obtain ⟨v',X',hap,hS',hb'⟩:=push ⟨1,d,line⟩ hb hS (by simp;omega)
   have ebu:=p9 1 d line
   obtain ⟨ec,hec⟩:∃ec,ec=gG.cells ⟨1,d,line⟩:=⟨_,rfl⟩
   rw [←hec] at ebu hap hS'
   have hecl:ec.length=66:=by rw [hec];simp
   have heca:∀x∈ec,x.leaf=true:=by rw [hec];exact List.all_eq_true.1 (gG.leafs _)
   rw [hbe]
   simp [-IE,q0,q3,q8,q12,q10,q11,q9,h,←hde,hr,e,hdl,ebu,hecl,heca,ah,aq,hap,show aJ.length=32 from rfl]
   rw [aL (h:=by kernel_rfl)]
   simp [q0,q3,q8,q12]
   exact ⟨heca,hb',by rw [←hec];exact hS'⟩
  ·rw [if_neg hdl] at hbe
   rw [hbe]
   simp [q0,q3,q8,q12,q10,q11,q9,h,←hde,hr,e,hdl]
   exact ⟨hb,hS⟩
 clear q0 q3 q8 q12 q10 q11 q9 hb hS hr
 rintro s1 X1 ⟨q0,q3,q8,q12,q10,q11,hb,hS⟩
 have hr:ax X1 H.length 0 33 0=some line.cells:=by simp [ax,hb]
 by_cases hth:b.1.1=false
 ·rw [hth] at q10
  simp [q0,q3,q8,q12,q10,q11,hth]
  exact ⟨hb,hS⟩
 have hth:b.1.1=true:=by simpa using hth
 have hn1:¬b.1.1=false:=by rw [hth];decide
 simp only [if_neg hn1]
 rw [hth] at q10
 obtain ⟨v,hv⟩:∃v,v=s1 9:=⟨_,rfl⟩
 rw [←hv] at hS
 refine cut (fun s' X'=>X'=X1∧s' 0=am k (s0.map ag.cells)∧s' 3=.ptr H.length 0 33 0 0∧s' 8=am (gV L) (L.map ar.cells)∧s' 12=.int .i64 i∧s' 10=.bool true∧s' 11=.bool b.1.2∧s' 9=v) ?_ ?_
 ·simp [q0,q3,q8,q12,q10,q11,hv]
 clear q0 q3 q8 q12 q10 q11 hv
 rintro s2 X2 ⟨rfl,q0,q3,q8,q12,q10,q11,q9⟩
 refine cut (fun s' X'=>X'=X2∧s' 0=am k (s0.map ag.cells)∧s' 3=.ptr H.length 0 33 0 0∧s' 8=am (gV L) (L.map ar.cells)∧s' 12=.int .i64 i∧s' 10=.bool true∧s' 11=.bool b.1.2∧s' 9=v∧s' 13=am KK (kl.map aC.cells)) ?_ ?_
 ·simp [q0,q3,q8,q12,q10,q11,q9,h,hx1,ekp,eKl,hr,wi]
 clear q0 q3 q8 q12 q10 q11 q9
 rintro s3 X3 ⟨rfl,q0,q3,q8,q12,q10,q11,q9,q13⟩
 have ap:∀z:gG,∃v' X',bg Tryz.prog H.length X3 #[30,30] v.denil (.lst [z.cells] true)=some (v',X')∧sr (H.length+1) 66 X' v' ((b.2++[z]).map gG.cells)∧X'[H.length]?=some (.rows 33 0 [line.cells]):=fun z=>by
  rw [List.map_append];exact push z hb hS (by simp;omega)
 have leaf:∀z:gG,∃ec,ec=z.cells∧ec.length=66∧∀x∈ec,x.leaf=true:=fun z=>⟨_,rfl,by simp,List.all_eq_true.1 (gG.leafs _)⟩
 cases hal:b.1.2 with
 | true =>
  rw [hal] at q11
  cases hkl:kl with
  | nil =>
   rw [hkl] at q13
   simp [q0,q3,q8,q12,q10,q11,q9,q13,an,hth,hal]
   exact ⟨hb,hS⟩
  | cons z kl' =>
   rw [hkl] at q13
   obtain ⟨v',X',hap,hS',hb'⟩:=ap ⟨2,d,z⟩
   have ebu:=p9 2 d z
   obtain ⟨ec,hec,hecl,heca⟩:=leaf ⟨2,d,z⟩
   rw [←hec] at ebu hap
   simp [-IE,q0,q3,q8,q12,q10,q11,q9,q13,an,h,←hde,ebu,hecl,heca,ah,aq,hap,show aJ.length=32 from rfl,hth,hal]
   rw [aL (h:=by kernel_rfl)]
   simp [q0,q3,q8,q12,q10]
   exact ⟨heca,hb',by simpa [hec] using hS'⟩
 | false =>
  rw [hal] at q11
  cases hkl:kl with
  | nil =>
   rw [hkl] at q13
   obtain ⟨v',X',hap,hS',hb'⟩:=ap ⟨3,d,line⟩
   have ebu:=p9 3 d line
   obtain ⟨ec,hec,hecl,heca⟩:=leaf ⟨3,d,line⟩
   rw [←hec] at ebu hap
   simp [-IE,q0,q3,q8,q12,q10,q11,q9,q13,an,h,←hde,hr,ebu,hecl,heca,ah,aq,hap,show aJ.length=32 from rfl,hth,hal]
   rw [aL (h:=by kernel_rfl)]
   simp [q0,q3,q8,q12,q10]
   exact ⟨heca,hb',by simpa [hec] using hS'⟩
  | cons z kl' =>
   rw [hkl] at q13
   have hk0:¬((kl'.length:Int)+1=0):=by omega
   simp [q0,q3,q8,q12,q10,q11,q9,q13,an,hth,hal,hk0]
   exact ⟨hb,hS⟩
end Go.Proofs.Ev
namespace Go.Proofs.Ev
open Go.Proofs
variable {C:bD} {σ:aZ}
theorem zY (S:cC C σ) (s0:List ag) (k:SK) (file:aC) (hs:cr s0) (he:ly σ s0 file 1≠0) :
 b8 Tryz.prog C 10 [] [am k (s0.map ag.cells),.agg file.cells] (.tup [.nils,.int .i64 (ly σ s0 file 1)]):=by
 refine aw (S.pureU _ (by decide)) fun H=>aj Tryz.func10 rfl (S.prim _ (by decide)) (by simp) (by kernel_rfl) ?_
 unfold Tryz.f10
 have ef:=(nW S.toba s0 k file 1 hs).eq
 simp [aE,ef,he]
 exact bb (by simp) (by simp)
theorem Ex (hd:∀l,(σ.d l).Perm l) {s:List ag} (F:pL σ s) (h:qc s=true):fa s:=by
 refine Jq hd F ?_
 unfold qc at h
 simp only [Bool.and_eq_true,Bool.not_eq_true',beq_iff_eq] at h
 obtain ⟨_,h2⟩:=h
 unfold p4 at h2
 split at h2
 ·omega
 rename_i c1
 exact (yP s none (by omega)).1
structure Lj (v w:AV) (rows:List (List AV)):Prop where
 l:∃k,v=am k rows
 r:∃k,w=am k rows
theorem zg (hi:b9 σ) (hd:∀l,(σ.d l).Perm l) {s:List ag} (P:fa s) (line:aC):kP σ s line=LF s line:=by
 have ho:=fl hd P.asc P.good.1 s.length []
 unfold kP LF
 rw [ho]
 rw [(zM hi hd P line (jh s _ _ (by simp [dG])) _ (Nat.le_refl _)).1]
theorem zi (hi:b9 σ) (hd:∀l,(σ.d l).Perm l) {s:List ag} (P:fa s) (file:aC):cT file (gt σ s (cn σ s s.length []))=A4 s file:=by
 have ho:=fl hd P.asc P.good.1 s.length []
 have h:=lK hi P (jn (σ:=σ) s)
 unfold A4
 rw [ho,←uc,←uc (l:=cu _ _),h]
 rfl
set_option maxRecDepth 100000 in
set_option maxHeartbeats 8000000 in
theorem DU (S:cC C σ) (hi:b9 σ) (hd:∀l,(σ.d l).Perm l) (hAw:b8 Tryz.prog C 5 [] [] (.bool true)) {s0:List ag} {k:SK} {id:aC} (hz:oj s0)
 (hf:qc s0=true→pL σ s0) (base:Nat) (H:ae) (hb:base≤H.length):dU Tryz.prog C base 3 [am k (s0.map ag.cells),.agg id.cells] H fun v _=>v=.bool true:=by
 refine aj Tryz.func3 rfl (S.prim _ (by decide)) (by simp) (by kernel_rfl) ?_
 unfold Tryz.f3
 have eA:=hAw.eq
 have e1:=(Hg S.toaV s0 k hz).eq
 obtain ⟨v,hv⟩:∃v,v=am k (s0.map ag.cells):=⟨_,rfl⟩
 refine cut (fun s X=>s 0=v∧s 3=.ptr H.length 0 33 0 0∧X=H++[.rows 33 0 [id.cells]]) ?_ ?_
 ·rw [←hv];simp [aE]
 rintro s X ⟨q0,q3,hX⟩
 rw [hX];clear hX X
 rw [←hv] at e1
 cases hfine:qc s0 with
 | false =>
  rw [hfine] at e1
  simp [q0,q3,e1,eA]
 | true =>
 rw [hfine] at e1
 have F:=hf hfine
 have P:=Ex hd F hfine
 have f5:=tX hi P id 5
 have f1:=tX hi P id 1
 have tE:∃v w n rows,Lj v w rows∧(∀base H K,aF Tryz.prog C base (.fn 6 []) [am k (s0.map ag.cells),.agg id.cells] H K=K (.tup [v,.int .i64 n]) H)∧(∀base H K,aF Tryz.prog C base (.fn 7 []) [am k (s0.map ag.cells),.agg id.cells] H K=K (.tup [w,.int .i64 n]) H)∧∀base H K,aF Tryz.prog C base (.fn 12 []) [v,w] H K=K (.bool true) H:=by
  have a:=(BV S.toba s0 k id F.good F.n).eq
  have b:=(JN S hi hd P F.n k id).eq
  rw [f5] at a
  by_cases he:eV s0 id 5=0
  ·rw [if_pos he] at a b
   have hl:(LF s0 id).length≤2^30:=by
    have h1:=uz s0 id (d9 s0 s0.length []) (d9 s0 s0.length []).length
    have h2:=eQ (σ:=σ) s0 s0.length []
    rw [←fl hd P.asc P.good.1 s0.length []] at h2
    have:=F.n
    simp at h2
    unfold LF;omega
   rw [zg hi hd P] at a
   exact ⟨_,_,_,_,⟨⟨_,rfl⟩,_,rfl⟩,a,b,(wH S _ _ _ hl).eq⟩
  ·rw [if_neg he] at a b
   exact ⟨_,_,_,[],⟨⟨.nil,rfl⟩,.nil,rfl⟩,a,b,(wH S [] .nil .nil (by simp)).eq⟩
 have tT:∃v w n rows,Lj v w rows∧(∀base H K,aF Tryz.prog C base (.fn 8 []) [am k (s0.map ag.cells),.agg id.cells] H K=K (.tup [v,.int .i64 n]) H)∧(∀base H K,aF Tryz.prog C base (.fn 9 []) [am k (s0.map ag.cells),.agg id.cells] H K=K (.tup [w,.int .i64 n]) H)∧∀base H K,aF Tryz.prog C base (.fn 13 []) [v,w] H K=K (.bool true) H:=by
  have a:=(yd S.toli s0 k id F.good F.n).eq
  have b:=(Hs S hi hd P F.n k id).eq
  rw [f1] at a
  by_cases he:eV s0 id 1=0
  ·rw [if_pos he] at a b
   have hl:(Ia s0 id).length≤2^30:=by
    have h1:=List.length_filter_le (fun d:ar=>dj (ic s0 (dE (bY s0 d.d))).2 id) (d9 s0 s0.length [])
    have h2:=eQ (σ:=σ) s0 s0.length []
    rw [←fl hd P.asc P.good.1 s0.length []] at h2
    have:=F.n
    simp at h2
    unfold Ia;omega
   rw [Cp hi hd P F.cov] at a
   exact ⟨_,_,_,_,⟨⟨_,rfl⟩,_,rfl⟩,a,b,(uK S _ _ _ hl).eq⟩
  ·rw [if_neg he] at a b
   exact ⟨_,_,_,[],⟨⟨.nil,rfl⟩,.nil,rfl⟩,a,b,(uK S [] .nil .nil (by simp)).eq⟩
 have tN:∃v w n rows,Lj v w rows∧(∀base H K,aF Tryz.prog C base (.fn 10 []) [am k (s0.map ag.cells),.agg id.cells] H K=K (.tup [v,.int .i64 n]) H)∧(∀base H K,aF Tryz.prog C base (.fn 11 []) [am k (s0.map ag.cells),.agg id.cells] H K=K (.tup [w,.int .i64 n]) H)∧∀base H K,aF Tryz.prog C base (.fn 14 []) [v,w] H K=K (.bool true) H:=by
  have b:=(Hh S hi hd P F.n k id).eq
  by_cases he:eV s0 id 1=0
  ·have a:=(BW S.toeK s0 k id F.good F.n (by rw [f1];exact he)).eq
   rw [if_pos he] at b
   have hl:(A4 s0 id).length≤2^30:=by
    have h1:=nq id (cu s0 (d9 s0 s0.length []))
    have hh:=jn (σ:=σ) s0
    have h2:=eQ (σ:=σ) s0 s0.length []
    rw [←fl hd P.asc P.good.1 s0.length []] at h2 hh
    have h3:=kq hi P hh
    have:=F.n
    simp at h2
    have h4:90000*(d9 s0 s0.length []).length≤90000*8:=Nat.mul_le_mul_left _ (by omega)
    unfold A4;omega
   rw [zi hi hd P] at a
   exact ⟨_,_,_,_,⟨⟨_,rfl⟩,_,rfl⟩,a,b,(uL S _ _ _ hl).eq⟩
  ·have a:=(zY S s0 k id F.good (by rw [f1];exact he)).eq
   rw [if_neg he] at b
   rw [f1] at a
   exact ⟨_,_,_,[],⟨⟨.nil,rfl⟩,.nil,rfl⟩,a,b,(uL S [] .nil .nil (by simp)).eq⟩
 rw [←hv] at tE tT tN
 obtain ⟨v1,w1,n1,r1,T1,a1,b1,c1⟩:=tE
 obtain ⟨v2,w2,n2,r2,T2,a2,b2,c2⟩:=tT
 obtain ⟨v3,w3,n3,r3,T3,a3,b3,c3⟩:=tN
 simp [q0,q3,e1,a1,b1,a2,b2,a3,b3,c1,c2,c3,eA,an]
end Go.Proofs.Ev
namespace Go.Proofs.Ev
open Go.Proofs
variable {N:gH} {p:Nat→List AV→ae→Option (AV×ae)}
theorem Bt:eK (dF p) qC:={
 toba:=pj
 pureU:=jG (by kernel_rfl)
 plainU:=sX (by kernel_rfl) }
theorem Bu:li (dF p) qC:={
 toeK:=Bt
 pureW:=jG (by kernel_rfl) }
theorem Bv:cC (dF p) qC:={
 toli:=Bu
 pureX:=jG (by kernel_rfl)
 kName:=rfl
 kEv:=rfl }
theorem DV (hT:fS Tryz.prog N) (hG:jk N) (hL:kW N) {s0:List ag} {k:SK} {id:aC} (hz:oj s0) {φ:fJ} {H:ae} {w:World} {Vs:Array Value} (hH:HR N φ H w) (ht:kF (fun v V=>RV φ H.length w v V) [am k (s0.map ag.cells),.agg id.cells] Vs.toList) :
 CallsIn (Fw none) 0 Tryz.prog 3 Vs w fun e w'=>e=.returned (.bool true)∧∃φ' H',HR N φ' H' w'∧bZ φ H.length w φ' H'.length w':=by
 obtain ⟨n,v,H',h1,rfl⟩:=DU Bv Ar (pj (p:=rj)).permD Dm (k:=k) (id:=id) hz (fun h=>IS (pj (p:=rj)).permD hz h) H.length H (Nat.le_refl _)
 refine (((qO (HL hT hG hL (FK hT hG hL)) n).2.2.2.2.1 H.length _ _ H _ H' h1).2 (Nat.le_refl _) hH ht).mono ?_
 rintro e w' ⟨V,φ',rfl,hv,h2,h3,_⟩
 cases hv
 exact ⟨rfl,φ',H',h2,h3⟩
end Go.Proofs.Ev
namespace Go.Proofs.Ev
open Go.Proofs Go.RowKit
section
variable {W:World}
theorem uh {v0 v1:Value} {s0:List ag} {id:aC} (h0:RV vn 0 W (am .loose (s0.map ag.cells)) v0) (h1:RV vn 0 W (.agg id.cells) v1) (hz:oj s0) (hL:laidMetH Tryz.prog GF W) :
 Calls Tryz.prog 3 #[v0,v1] W fun e w'=>e=.returned (.bool true)∧Below W.heap.size W w':=by
 refine callsIn_wide.1 ((jp (r':=none) (DV Mt HZ (Jc (Ms hL)) hz CG (Vs:=#[v0,v1]) (.cons h0 (.cons h1 .nil)))).mono ?_)
 rintro e w' ⟨rfl,φ',H',_,hx⟩
 exact ⟨rfl,FN hx⟩
end
end Go.Proofs.Ev
namespace Go.Proofs.YtkicailcmamaiaaGreatDoor.blameHistoryDone
open Go
set_option linter.unusedVariables false
theorem cf9:(fun (P:Program) (f:FuncId) (fn:Func) (s:ChangeSpec) (c:OpenClaim)=>((c.inPlace==P.inPlace f):Bool)) Tryz.prog 3 Tryz.f3 (Rows.OpenSpec.upto Rows.blameHistorySpec).bare Rows.blameHistoryUptoRow=true:=by kernel_rfl
theorem cf10:(fun (P:Program) (f:FuncId) (fn:Func) (s:ChangeSpec) (c:OpenClaim)=>((c.unfollowed==P.unfollowed f):Bool)) Tryz.prog 3 Tryz.f3 (Rows.OpenSpec.upto Rows.blameHistorySpec).bare Rows.blameHistoryUptoRow=true:=by kernel_rfl
end Go.Proofs.YtkicailcmamaiaaGreatDoor.blameHistoryDone
namespace Go.Proofs.YtkicailcmamaiaaGreatDoor.blameHistoryDone
open Go
set_option linter.unusedVariables false
theorem cf11:(fun (P:Program) (f:FuncId) (fn:Func) (s:ChangeSpec) (c:OpenClaim)=>((c.recurses==P.recurses f):Bool)) Tryz.prog 3 Tryz.f3 (Rows.OpenSpec.upto Rows.blameHistorySpec).bare Rows.blameHistoryUptoRow=true:=by kernel_rfl
theorem cf12:(fun (P:Program) (f:FuncId) (fn:Func) (s:ChangeSpec) (c:OpenClaim)=>((c.named==P.varsNamed f):Bool)) Tryz.prog 3 Tryz.f3 (Rows.OpenSpec.upto Rows.blameHistorySpec).bare Rows.blameHistoryUptoRow=true:=by kernel_rfl
end Go.Proofs.YtkicailcmamaiaaGreatDoor.blameHistoryDone
