/- Part 18 of the proof that quiltlaw38.BlameTouching returns true: no statement of its own. -/
import Derived.Test.YtbpaeodbnleoaaaGreatDoorT17
import Derived.Test.YtbpaeodbnleoaaaGreatDoorT14
set_option linter.all false
namespace Go.Proofs.Ev
open Go.Proofs
variable {C:bG}
mutual
def SX.strip:SX→SX
 | .mk b a l _=>.mk b a (SX.strips l) .nil
def SX.strips:List SX→List SX
 | []=>[]
 | x::l=>SX.strip x::SX.strips l
end
theorem SX.strips_map:∀l:List SX,SX.strips l=l.map SX.strip
 | []=>rfl
 | x::l=>by rw [SX.strips,SX.strips_map l];rfl
mutual
theorem SX.nodes_strip:∀x:SX,x.strip.nodes=x.nodes
 | .mk b a l k=>by rw [SX.strip,SX.nodes,SX.nodes,SX.nodess_strip l]
theorem SX.nodess_strip:∀l:List SX,SX.nodess (SX.strips l)=SX.nodess l
 | []=>rfl
 | x::l=>by rw [SX.strips,SX.nodess,SX.nodess,SX.nodes_strip x,SX.nodess_strip l]
end
mutual
theorem SX.chk_strip:∀x:SX,x.strip.chk=x.chk
 | .mk false a l k=>by
  rw [SX.strip,SX.chk,SX.chk,SX.strips_map,List.length_map]
 | .mk true a l k=>by rw [SX.strip,SX.chk,SX.chk,SX.chks_strip l]
theorem SX.chks_strip:∀l:List SX,SX.chks (SX.strips l)=SX.chks l
 | []=>rfl
 | x::l=>by rw [SX.strips,SX.chks,SX.chks,SX.chk_strip x,SX.chks_strip l]
end
theorem fB (l:List SX) (k:SK):(fp l k).strip=fp (l.map SX.strip) .nil:=by rw [fp,SX.strip,SX.strips_map];rfl
theorem Iy (c:aW) (h1:1≤c.kind) (h2:c.kind≤7):(FT c).strip=(lx c).strip:=by
 have h:(fO c.kind::gu c).map SX.strip=(kP c).map SX.strip:=by
  have e1:(jI c.over).strip=(nA c.over).strip:=by rw [jI,nA,fB,fB]
  have e2:(nr c.lines).strip=(nt c.lines).strip:=by rw [nr,nt,fB,fB]
  have hk:c.kind=1∨c.kind=2∨c.kind=3∨c.kind=4∨c.kind=5∨c.kind=6∨c.kind=7:=by omega
  rcases hk with hk | hk | hk | hk | hk | hk | hk<;>simp [gu,kP,mM,jM,yL,hk,e1,e2]
 rw [FT,lx,fB,fB,h]
theorem CQ (p:aC) (hd:∀d∈p.deps,bC d.d=false) (hc:∀c∈p.changes,1≤c.kind∧c.kind≤7):(gx p).strip=(dK p).strip:=by
 have e1:(p.deps.map fun d=>qa d.d)=(p.deps.map fun d=>jF d.d):=List.map_congr_left fun d h=>by rw [qa,jF,hd d h];rfl
 have e2:(p.changes.map FT).map SX.strip=(p.changes.map lx).map SX.strip:=by
  rw [List.map_map,List.map_map];exact List.map_congr_left fun c h=>Iy c (hc c h).1 (hc c h).2
 rw [gx,dK,fB,fB]
 simp only [List.map_cons,List.map_nil,fB,e1,e2]
mutual
def SX.dep:SX→Nat
 | .mk _ _ l _=>SX.deps l+1
def SX.deps:List SX→Nat
 | []=>0
 | x::l=>max (SX.dep x) (SX.deps l)
end
mutual
theorem SX.ms_ok:∀(x:SX) (lv c:Int),c+x.nodes≤20000→lv+x.dep≤13→∃c',c<c'∧c'≤c+x.nodes∧x.ms lv c false=(c',false)
 | .mk b a l k,lv,c,h1,h2=>by
  rw [SX.nodes] at h1 ⊢
  rw [SX.dep] at h2
  have g1:decide (20000<c+1)=false:=by simp;omega
  have g2:decide (12<lv)=false:=by simp;omega
  rw [SX.ms,g1,g2]
  cases b with
  | false=>exact ⟨c+1,by omega,by omega,rfl⟩
  | true =>
   obtain ⟨c',h3,h4,h5⟩:=SX.mss_ok l lv (c+1) (by omega) (by omega)
   exact ⟨c',by omega,by omega,by simpa using h5⟩
theorem SX.mss_ok:∀(l:List SX) (lv c:Int),c+SX.nodess l≤20000→lv+1+SX.deps l≤13→∃c',c≤c'∧c'≤c+SX.nodess l∧SX.mss l lv c false=(c',false)
 | [],lv,c,_,_=>⟨c,by omega,by simp [SX.nodess],rfl⟩
 | x::l,lv,c,h1,h2=>by
  rw [SX.nodess] at h1 ⊢
  rw [SX.deps] at h2
  obtain ⟨c1,a1,a2,a3⟩:=SX.ms_ok x (lv+1) c (by omega) (by omega)
  obtain ⟨c2,b1,b2,b3⟩:=SX.mss_ok l lv c1 (by omega) (by omega)
  refine ⟨c2,by omega,by omega,?_⟩
  rw [SX.mss,a3]
  simpa using b3
end
theorem SX.deps_le {d:Nat}:∀{l:List SX},(∀x∈l,x.dep≤d)→SX.deps l≤d
 | [],_=>by simp [SX.deps]
 | x::l,h=>by
  rw [SX.deps]
  have:=h x (by simp)
  have:=SX.deps_le (l:=l) fun y hy=>h y (by simp [hy])
  omega
theorem kj {l:List SX} {k:SK} {d:Nat} (h:∀x∈l,x.dep≤d):(fp l k).dep≤d+1:=by
 rw [fp,SX.dep];have:=SX.deps_le h;omega
theorem lA (s:List UInt8):(bT s).dep=1:=rfl
theorem xk (n:Int):(fO n).dep=1:=rfl
theorem Jp (d:List Nat):(jF d).dep=1:=by unfold jF;split<;>rfl
theorem Dc (x:aI):(dN x).dep≤2:=kj fun y hy=>by
 simp only [List.mem_cons,List.not_mem_nil,or_false] at hy
 rcases hy with rfl | rfl
 ·rw [Jp];omega
 ·rw [xk];omega
theorem GH (l:List aI):(jI l).dep≤3:=kj fun y hy=>by
 obtain ⟨x,_,rfl⟩:=List.mem_map.1 hy
 exact Dc x
theorem Eh (l:List (List UInt8)):(nr l).dep≤3:=kj fun y hy=>by
 obtain ⟨x,_,rfl⟩:=List.mem_map.1 hy
 rw [lA];omega
theorem LY (c:aW):(FT c).dep≤4:=kj fun y hy=>by
 have a1:=xk
 have a2:=lA
 have a3:=Dc
 have a4:=GH c.over
 have a5:=Eh c.lines
 unfold gu at hy
 repeat' split at hy
 all_goals
  simp only [List.mem_cons,List.not_mem_nil,or_false] at hy
  rcases hy with rfl | hy
  ·rw [a1];omega
  first
   | (subst hy;first | exact a4 | (rw [a1];omega))
   | (rcases hy with rfl | rfl | rfl | rfl
      all_goals first | exact a4 | exact a5 | (rw [a1];omega) | (rw [a2];omega) | (exact Nat.le_trans (a3 _) (by decide)))
   | (rcases hy with rfl | rfl | rfl
      all_goals first | exact a4 | exact a5 | (rw [a1];omega) | (rw [a2];omega) | (exact Nat.le_trans (a3 _) (by decide)))
theorem GI (p:aC):(gx p).dep≤6:=kj fun y hy=>by
 simp only [List.mem_cons,List.not_mem_nil,or_false] at hy
 rcases hy with rfl | rfl | rfl | rfl | rfl | rfl
 ·rw [lA];omega
 ·rw [lA];omega
 ·rw [lA];omega
 ·rw [xk];omega
 ·refine kj fun y hy=>?_
  obtain ⟨x,_,rfl⟩:=List.mem_map.1 hy
  rw [qa,lA];omega
 ·refine kj fun y hy=>?_
  obtain ⟨x,_,rfl⟩:=List.mem_map.1 hy
  exact LY x
def bk:List aW→List aH→List aH
 | [],own=>own
 | c::l,own=>bk l (own++cg c own.length)
theorem Bd:∀(l:List aW) (own:List aH),(kg l own).1=0→(kg l own).2=bk l own∧∀(i:Nat) (c:aW),l[i]?=some c→gW c=0∧li c (bk (l.take i) own)=0
 | [],own,_=>⟨rfl,fun i c h=>by simp at h⟩
 | c::l,own,h=>by
  rw [kg] at h ⊢
  by_cases h1:gW c=0
  ·by_cases h2:li c own=0
   ·rw [if_neg (by simp [h1]),if_neg (by simp [h2])] at h ⊢
    obtain ⟨a,b⟩:=Bd l _ h
    refine ⟨a,fun i c' hc=>?_⟩
    cases i with
    | zero=>simp at hc;subst hc;exact ⟨h1,h2⟩
    | succ i=>exact b i c' (by simpa using hc)
   ·rw [if_neg (by simp [h1]),if_pos h2] at h;exact absurd h h2
  ·rw [if_pos h1] at h;exact absurd h h1
theorem kc:∀(l m:List aW) (own:List aH),bk (l++m) own=bk m (bk l own)
 | [],m,own=>rfl
 | c::l,m,own=>by rw [List.cons_append,bk,bk,kc l m]
theorem wV {l:List aW} {i:Nat} {c:aW} (h:l[i]?=some c):bk (l.take (i+1)) []=bk (l.take i) []++cg c (bk (l.take i) []).length:=by
 rw [List.take_add_one,h,kc];rfl
theorem kS:∀(l:List aW) (own:List aH),own.length≤(bk l own).length
 | [],own=>Nat.le_refl _
 | c::l,own=>by
  rw [bk]
  have:=kS l (own++cg c own.length)
  simp only [List.length_append] at this
  omega
theorem sG (l:List aW) (i:Nat):(bk (l.take i) []).length≤(bk l []).length:=by
 have h:=kc (l.take i) (l.drop i) []
 rw [List.take_append_drop] at h
 rw [h];exact kS _ _
theorem JQ {c:aW} {first i:Nat} {y:aH} (h:(cg c first)[i]?=some y):y.id=br ((first+i:Nat):Int):=by
 have one:∀z:aH,z.id=br (first:Int)→[z][i]?=some y→y.id=br ((first+i:Nat):Int):=by
  intro z hz hy
  cases i with
  | zero=>simp at hy;subst hy;exact hz
  | succ i=>simp at hy
 unfold cg at h
 repeat' split at h
 all_goals first
  | exact one _ rfl h
  | skip
 rcases Nat.lt_or_ge i c.lines.length with hi | hi
 ·rw [List.getElem?_append_left (by simpa using hi),List.getElem?_map,List.getElem?_range hi] at h
  simp only [Option.map_some,Option.some.injEq] at h
  subst h;rfl
 ·rw [List.getElem?_append_right (by simpa using hi),List.getElem?_map,List.length_map,List.length_range] at h
  rcases Nat.lt_or_ge (i-c.lines.length) (c.lines.length+1) with hj | hj
  ·rw [List.getElem?_range hj] at h
   simp only [Option.map_some,Option.some.injEq] at h
   subst h
   show br _=_
   congr 2;omega
  ·rw [List.getElem?_eq_none (by simpa using hj)] at h;cases h
theorem oS:∀(l:List aW) (own:List aH),(∀(i:Nat) (y:aH),own[i]?=some y→y.id=br (i:Int))→∀(i:Nat) (y:aH),(bk l own)[i]?=some y→y.id=br (i:Int)
 | [],own,h=>h
 | c::l,own,h=>by
  refine oS l _ fun i y hy=>?_
  rcases Nat.lt_or_ge i own.length with hi | hi
  ·rw [List.getElem?_append_left hi] at hy;exact h i y hy
  ·rw [List.getElem?_append_right hi] at hy
   rw [JQ hy];congr 2;omega
structure aC.Good (p:aC):Prop where
 fit:p.Fit
 ok:bz p=0
 n:(aR p).length≤90000
theorem aC.Good.check {p:aC} (h:p.Good):kf p=0:=by
 have:=h.ok
 unfold bz at this
 split at this
 ·omega
 ·omega
theorem aC.Good.encode {p:aC} (h:p.Good):vg (dK p)=0∧(dK p).enc.length≤65536:=by
 have h1:=h.ok
 rw [bz,if_neg (by simp [h.check])] at h1
 unfold gV at h1
 split at h1
 ·omega
 ·rename_i h2;omega
theorem aC.Good.headE {p:aC} (h:p.Good):headE p=0:=by
 have:=h.check
 unfold kf at this
 split at this
 ·omega
 ·omega
theorem aC.Good.chg {p:aC} (h:p.Good):(kg p.changes []).1=0:=by
 have:=h.check
 rw [kf,if_neg (by simp [h.headE])] at this
 exact this
theorem aC.Good.atoms {p:aC} (h:p.Good):aR p=bk p.changes []:=by
 rw [aR,if_neg (by simp [h.headE])];exact (Bd _ _ h.chg).1
theorem aC.Good.change {p:aC} (h:p.Good) {i:Nat} {c:aW} (hc:p.changes[i]?=some c):c.Good∧li c (bk (p.changes.take i) [])=0 :=
 have:=(Bd _ _ h.chg).2 i c hc
 ⟨JC this.1,this.2⟩
theorem aC.Good.good {p:aC} (h:p.Good) {c:aW} (hc:c∈p.changes):c.Good:=by
 obtain ⟨i,hi,rfl⟩:=List.getElem_of_mem hc
 exact (h.change (List.getElem?_eq_getElem hi)).1
theorem aC.Good.head {p:aC} (h:p.Good):Dh p=0∧p.changes.length≠0∧p.changes.length≤400∧iv none p.deps=0∧p.deps.length≤100:=by
 have h0:=h.headE
 unfold Ev.headE at h0
 split at h0
 ·omega
 rename_i h1
 split at h0
 ·omega
 rename_i h2
 split at h0
 ·omega
 rename_i h3
 split at h0
 ·omega
 rename_i h4
 split at h0
 ·omega
 rename_i h5
 split at h0
 ·omega
 rename_i h6
 have h4':qb p.deps=0:=by omega
 unfold qb at h4'
 split at h4'
 ·omega
 rename_i h7
 have h3':¬(p.time<0∨1099511627776<p.time):=by simpa using h3
 refine ⟨?_,h5,by omega,h4',by omega⟩
 rw [Dh,zK,if_neg h1,if_neg (by omega),if_neg h3',if_neg (by omega),if_neg (by simp [h4']),if_neg h5,if_neg (by omega)]
theorem tN:∀(l:List ar) (a:Option ar),iv a l=0→∀d∈l,bC d.d=false
 | [],_,_,d,hd=>by cases hd
 | x::l,a,h,d,hd=>by
  have key:bC x.d=false∧iv (some x) l=0:=by
   cases hz:bC x.d with
   | true=>cases a<;>simp [iv,hz] at h
   | false =>
    refine ⟨rfl,?_⟩
    cases a with
    | none=>simpa [iv,hz] using h
    | some y =>
     by_cases hc:0≤bZ y.d x.d
     ·simp [iv,hz,hc] at h
     ·simpa [iv,hz,hc] using h
  rcases List.mem_cons.1 hd with rfl | hd
  ·exact key.1
  ·exact tN l _ key.2 d hd
theorem aC.Good.tree {p:aC} (h:p.Good):pe (gx p)=0∧(gx p).enc=(dK p).enc∧p.OkP:=by
 obtain ⟨_,_,h400,hdl,_⟩:=h.head
 have hd:=tN _ _ hdl
 have hc:∀c∈p.changes,1≤c.kind∧c.kind≤7:=fun c hc=>⟨(h.good hc).k1,(h.good hc).k7⟩
 have hs:=CQ p hd hc
 obtain ⟨he,_⟩:=h.encode
 unfold vg at he
 split at he
 ·omega
 rename_i hcnt
 have hn:=(SX.cnt_n _ (dK p) 20000 12 (Nat.le_refl _) (by omega)).2.2 he (by omega)
 have hnod:(gx p).nodes=(dK p).nodes:=by rw [←SX.nodes_strip,hs,SX.nodes_strip]
 have hchk:(gx p).chk=0:=by rw [←SX.chk_strip,hs,SX.chk_strip];exact he
 have hdep:=GI p
 obtain ⟨c',_,_,h5⟩:=SX.ms_ok (gx p) 1 0 (by omega) (by omega)
 refine ⟨by rw [pe,h5];simpa using hchk,GM p hd hc,⟨h.fit.ok2.deps,h.fit.ok2.changesN,fun c hcm=>⟨h.fit.ok2.changes c hcm,hc c hcm⟩,by omega⟩⟩
end Go.Proofs.Ev
namespace Go.Proofs.Ev
open Go.Proofs
variable {C:bG}
theorem aT.freezeK {Z J L:ag} {n d sz:Nat} {v:AV} {rows:List (List AV)} (hg:aT n sz J v rows) (hn:n=Z.length) (hc:AV.closedss rows=true):∃k,aJ (Z++(J++L)) 0 (d+1) v=some (aw k rows):=by
 rcases hg with ⟨rfl,rfl⟩ | rfl | ⟨b,g,rfl,hb⟩
 ·exact ⟨.nil,by simp [aw]⟩
 ·exact ⟨.exact,aq (by simpa [AV.closed] using hc)⟩
 ·exact ⟨.loose,aT.freezeS (J:=J) (.inr (.inr ⟨b,g,rfl,hb⟩)) hn (Nat.zero_le _) hc ⟨_,_,_,rfl⟩⟩
theorem aT.setL {n sz j:Nat} {J:ag} {v:AV} {rows:List (List AV)} {blk x:bQ} (hg:aT n sz J v rows) (hj:J[j]?=some blk) (hb:∀g rs,blk≠.rows sz g rs):aT n sz (J.set j x) v rows:=by
 rcases hg with h | h | ⟨b,g,rfl,hb'⟩
 ·exact .inl h
 ·exact .inr (.inl h)
 ·refine .inr (.inr ⟨b,g,rfl,?_⟩)
  rw [List.getElem?_set_ne]
  ·exact hb'
  ·rintro rfl
   rw [hj] at hb'
   exact hb _ _ (Option.some.inj hb')
theorem pA (Z J:ag) (a x:bQ) (j:Nat):(Z++a::J).set (Z.length+1+j) x=Z++a::J.set j x:=by
 rw [show Z.length+1+j=Z.length+(j+1) by omega,pR];rfl
theorem jm (Z J:ag) (a:bQ) (j:Nat):(Z++a::J)[Z.length+1+j]?=J[j]?:=by
 rw [show Z.length+1+j=Z.length+(j+1) by omega,bt];rfl
def AT (v:AV):Prop:=v=.nils∨∃b g l,v=.sl b g 172 0 l
theorem lY {P:Program} {base:Nat} {H:ag} {ts:Array TypeId} {e sz by_:Nat} {xd:TypeDesc} (h0:(ts[0]?).bind P.underlying=some (.slice e)) (h1:(ts[1]?).bind P.underlying=some xd) (hs:bF P e=some sz) (hb:bytesOf P e=some by_) {s x:AV} {ys:List (List AV)}
 (hx:cQ H xd x=some ys) (hne:ys≠[]) {v':AV} {H':ag} (h:bA P base H ts s x=some (v',H')):∃b g l,v'=.sl b g sz 0 l:=by
 unfold bA at h
 simp only [h0,h1,hs,hb,hx] at h
 split at h
 ·split at h
  ·rw [if_neg (by simpa using hne)] at h
   split at h
   ·simp only [Option.some.injEq,Prod.mk.injEq] at h;exact ⟨_,_,_,h.1.symm⟩
   ·cases h
  ·split at h
   ·split at h
    ·rename_i hc
     simp only [Option.some.injEq,Prod.mk.injEq] at h
     obtain ⟨_,_,_,hc,_⟩:=hc
     rw [hc]
     exact ⟨_,_,_,h.1.symm⟩
    ·cases h
   ·cases h
  ·cases h
 ·cases h
def NS (Z:ag) (jl jc jf s0:Nat) (LB:bQ) (c:aW) (first:Nat) (l:List aH) (X:ag):Prop :=
 ∃v J,X=Z++.rows 1 0 [[v]]::J∧aT (Z.length+1) 172 J v (l.map aH.cells)∧J[jl]?=some LB∧J[jc]?=some (.rows 139 0 [c.cells])∧J[jf]?=some (.rows 1 0 [[.int .i64 (first:Int)]])∧s0≤J.length∧AT v
theorem Ek {base N:Nat} {Z:ag} (hZ:base≤Z.length) {jl jc jf s0:Nat} {LB:bQ} {c:aW} {first:Nat}
 (hy:∀{l:List aH} {X:ag} (y:aH),NS Z jl jc jf s0 LB c first l X→l.length≤N→∃X',NS Z jl jc jf s0 LB c first (l++[y]) X'∧(∀b g rs,Z.length+1+s0≤b→X[b]?=some (.rows 33 g rs)→X'[b]?=some (.rows 33 g rs))∧
  ∀K:AV→ag→Prop,aD Tryz.prog C base (.yld (Z.length+1+jl)) [.agg y.cells] X K=K (.bool true) X')
 (hl:jl<s0) (hLB:∀g rs,LB≠.rows 33 g rs) (hjc:jc<s0) (hjf:jf<s0) :
 F5 C base (Z.length+1+jl) (Z.length+1+jc) (Z.length+1+jf) (Z.length+1+s0) N c first (NS Z jl jc jf s0 LB c first):={
 app:=by
  rintro l X L ⟨v,J,rfl,hg,h1,h2,h3,h4,h5⟩
  exact ⟨v,J++L,by simp,hg.app L,by rw [List.getElem?_append_left (List.getElem?_eq_some_iff.1 h1).1];exact h1,by rw [List.getElem?_append_left (List.getElem?_eq_some_iff.1 h2).1];exact h2,by rw [List.getElem?_append_left (List.getElem?_eq_some_iff.1 h3).1];exact h3,by simp;omega,h5⟩
 set:=by
  rintro l X b g rs rs' ⟨v,J,rfl,hg,h1,h2,h3,h4,h5⟩ hb hr
  obtain ⟨j,rfl⟩:∃j,b=Z.length+1+j:=⟨b-(Z.length+1),by omega⟩
  rw [jm] at hr
  refine ⟨v,J.set j (.rows 33 g rs'),pA _ _ _ _ _,hg.setL hr (by intro g' rs'' h;cases h),?_,?_,?_,by simpa using h4,h5⟩
  ·rw [List.getElem?_set_ne (by omega)];exact h1
  ·rw [List.getElem?_set_ne (by omega)];exact h2
  ·rw [List.getElem?_set_ne (by omega)];exact h3
 low:=by
  rintro l X ⟨v,J,rfl,hg,h1,h2,h3,h4,h5⟩
  constructor<;>simp<;>omega
 c:=by
  rintro l X ⟨v,J,rfl,hg,h1,h2,h3,h4,h5⟩
  rw [jm];exact h2
 f:=by
  rintro l X ⟨v,J,rfl,hg,h1,h2,h3,h4,h5⟩
  rw [jm];exact h3
 yld:=hy }
theorem B5 (S:gd C) {Z J:ag} {base:Nat} (hZ:base≤Z.length) {v:AV} {own:List aH} {c:aW} (k1:1≤c.kind) (k7:c.kind≤7) (hl:c.lines.length≤2000) (hg:aT (Z.length+1) 172 J v (own.map aH.cells)) (hv:AT v) (hn:own.length≤90000)
 {l:List AV} {ps:List Tmp} {assign body:Code} {nb pf pc:Nat} {X:ag} (hX:X=Z++.rows 1 0 [[v]]::(J++[.rows 139 0 [c.cells],.rows 139 0 [c.cells],.rows 1 0 [[.int .i64 (own.length:Int)]]]))
 (hnb:nb=Z.length+1+(J.length+3)) (hpf:pf=Z.length+1+(J.length+2)) (hpc:pc=Z.length+1+(J.length+1))
 (hy:∀(LB BB:bQ) (_:cL l ps assign body=LB) (_:mZ l ps assign body=BB) {l':List aH} {X':ag} (y:aH),NS Z (J.length+3) (J.length+1) (J.length+2) (J.length+4) LB c own.length l' X'→l'.length≤95000→
  ∃X'',NS Z (J.length+3) (J.length+1) (J.length+2) (J.length+4) LB c own.length (l'++[y]) X''∧
  (∀b g rs,Z.length+1+(J.length+4)≤b→X'[b]?=some (.rows 33 g rs)→X''[b]?=some (.rows 33 g rs))∧∀K:AV→ag→Prop,aD Tryz.prog C base (.yld (Z.length+1+(J.length+3))) [.agg y.cells] X' K=K (.bool true) X'')
 (K:AV→ag→Prop) (hK:∀v' J',aT (Z.length+1) 172 J' v' ((own++cg c own.length).map aH.cells)→J'[J.length+3]?=some (cL l ps assign body)→AT v'→K (.tup []) (Z++.rows 1 0 [[v']]::J')) :
 dW Tryz.prog C base 273 [.yld nb,.ptr pf 0 1 0 0,.ptr pc 0 139 0 0] (X++[cL l ps assign body]) K:=by
 subst hnb;subst hpf;subst hpc
 refine EO S c own.length k1 k7 (by omega) hl (Ek (N:=95000) hZ (hy _ _ rfl rfl) (by omega) (by intro g rs h;cases h) (by omega) (by omega)) (own:=own) (by omega) ?_ K ?_
 ·exact ⟨v,J++[.rows 139 0 [c.cells],.rows 139 0 [c.cells],.rows 1 0 [[.int .i64 (own.length:Int)]],cL l ps assign body],by rw [hX];simp,hg.app _,by simp,by simp,by simp,by simp,hv⟩
 ·rintro X' ⟨v',J',rfl,hg',h1,_,_,_,h5⟩
  exact hK v' J' hg' h1 h5
theorem rY (l:List aH):AV.closedss (l.map aH.cells)=true:=aM aH.closed l
structure gQ (C:bG):Prop extends gd C where
 plainO:∀f,f∈[139]→C.pure f=false∧C.frz f=false
set_option maxRecDepth 100000 in
set_option maxHeartbeats 8000000 in
theorem pg (S:gQ C) (p:aC) (hp:p.Good) {base:Nat} {H:ag} (hb:base≤H.length) :
 ∃v J,aT (H.length+2) 172 J v ((aR p).map aH.cells)∧AT v∧∀K:AV→ag→Prop,aD Tryz.prog C base (.fn 139 []) [.agg p.cells] H K=K (.tup [v,.str (dK p).enc,.int .i64 0]) (H++.rows 5 0 [p.cells]::.rows 1 0 [[v]]::J):=by
 suffices h:aD Tryz.prog C base (.fn 139 []) [.agg p.cells] H (fun v' H'=>∃v J,aT (H.length+2) 172 J v ((aR p).map aH.cells)∧AT v∧v'=.tup [v,.str (dK p).enc,.int .i64 0]∧H'=H++.rows 5 0 [p.cells]::.rows 1 0 [[v]]::J) by
  obtain ⟨n,v1,H1,h1,v,J,hg,hv,rfl,rfl⟩:=h
  exact ⟨_,J,hg,hv,fun K=>aD.eq ⟨n,_,_,h1,rfl,rfl⟩ K⟩
 refine bn (S.plainO _ (by decide)).1 (S.plainO _ (by decide)).2 (am Tryz.func139 rfl (S.prim _ (by decide)) (by simp) (by kernel_rfl) ?_)
 unfold Tryz.f139
 obtain ⟨hh,hch0,hch,_,_⟩:=hp.head
 obtain ⟨ht1,ht2,ht3⟩:=hp.tree
 obtain ⟨_,hel⟩:=hp.encode
 have e1:=(HU S.toj8 p hp.fit.ok.author).eq
 have e2:=(HS S.togc p ht3).eq
 rw [hh] at e1
 rw [ht1,if_pos rfl,ht2] at e2
 have hat:=hp.atoms
 refine cut (fun s H'=>s 1=.ptr H.length 0 5 0 0∧H'=H++[.rows 5 0 [p.cells]]) ?_ ?_
 ·simp [aG]
 rintro s H' ⟨q1,rfl⟩
 refine cut (fun s H'=>s 1=.ptr H.length 0 5 0 0∧H'=H++[.rows 5 0 [p.cells]]) ?_ ?_
 ·simp [q1,e1]
 rintro s H' ⟨q1,rfl⟩
 refine cut (fun s H'=>s 1=.ptr H.length 0 5 0 0∧s 6=.ptr (H.length+1) 0 1 0 0∧H'=H++[.rows 5 0 [p.cells],.rows 1 0 [[.nils]]]) ?_ ?_
 ·simp [q1]
 rintro s H' ⟨q1,q6,rfl⟩
 refine cut (fun s H'=>s 1=.ptr H.length 0 5 0 0∧s 6=.ptr (H.length+1) 0 1 0 0∧∃v J,aT (H.length+2) 172 J v ((bk p.changes []).map aH.cells)∧AT v∧H'=H++.rows 5 0 [p.cells]::.rows 1 0 [[v]]::J) ?_ ?_
 ·simp [q1,q6]
  refine az p.changes.length (fun i s H'=>s 1=.ptr H.length 0 5 0 0∧s 6=.ptr (H.length+1) 0 1 0 0∧s 20=aw p.changesK (p.changes.map aW.cells)∧s 21=.int .i64 p.changes.length∧s 22=.int .i64 i∧
   ∃v J,aT (H.length+2) 172 J v ((bk (p.changes.take i) []).map aH.cells)∧AT v∧H'=H++.rows 5 0 [p.cells]::.rows 1 0 [[v]]::J) ?_ ?_
  ·exact ⟨q1,q6,rfl,rfl,rfl,.nils,[],.nils,.inl rfl,rfl⟩
  clear q1 q6
  rintro i s H' ⟨q1,q6,q20,q21,q22,v,J,hg,hv,rfl⟩ hi
  by_cases h:i<p.changes.length
  ·obtain ⟨c,hc⟩:∃c,c=p.changes[i]:=⟨_,rfl⟩
   have hci:p.changes[i]?=some c:=by rw [hc];exact List.getElem?_eq_getElem h
   obtain ⟨hcg,hcr⟩:=hp.change hci
   obtain ⟨own,hown⟩:∃own,own=bk (p.changes.take i) []:=⟨_,rfl⟩
   rw [←hown] at hg hcr
   have hid:=oS (p.changes.take i) [] (fun i y h=>by simp at h)
   rw [←hown] at hid
   have hn1:=sG p.changes i
   have hn2:=hp.n
   rw [←hown] at hn1
   rw [hat] at hn2
   have hsucc:=wV hci
   rw [←hown] at hsucc
   have hcm:c∈p.changes:=hc▸List.getElem_mem h
   have ef:=(sQ S.toiJ c hcg (hp.fit.ok.changes c hcm).name).eq
   obtain ⟨k,hk⟩:=hg.freezeK (Z:=H++[.rows 5 0 [p.cells],.rows 1 0 [[v]]]) (L:=[.rows 139 0 [c.cells]]) (d:=5) (by simp) (rY own)
   have er:=(oj S.tolm c own k hcg hcr hid (by omega)).eq base (H++.rows 5 0 [p.cells]::.rows 1 0 [[v]]::(J++[.rows 139 0 [c.cells]])) (caps:=[]) (args:=[.agg c.cells,v])
    (by simp only [List.append_assoc,List.cons_append,List.nil_append] at hk;simp [hk,aq,AV.closed])
   have el:=fun HH=>hg.len (P:=Tryz.prog) (t:=87) (e:=83) (H:=HH) (by simp)
   rw [List.length_map] at el
   have em:=fun K=>JP S.togd c own.length (base:=base) (H:=H++.rows 5 0 [p.cells]::.rows 1 0 [[v]]::(J++[.rows 139 0 [c.cells]])) K
   simp [q1,q6,q20,q21,q22,h,←hc,ao,aE,ef,er,el]
   refine ⟨by omega,?_⟩
   rw [em]
   simp [q1,q6,q20,q21,q22]
   refine il (f:=273) (caps:=[.ptr (H.length+(J.length+4)) 0 1 0 0,.ptr (H.length+(J.length+3)) 0 139 0 0]) (by simp;omega) fun l hr=>?_
   refine B5 (Z:=H++[.rows 5 0 [p.cells]]) (J:=J) (v:=v) (own:=own) (c:=c) S.togd (by simp;omega) hcg.k1 hcg.k7 hcg.lnn (by simpa using hg) hv (by omega) (by simp) (by simp;omega) (by simp;omega) (by simp;omega) ?_ _ ?_
   ·rintro LB BB hLB hBB l' X' y ⟨v',J',rfl,hg',h1,h2,h3,h4,h5⟩ hl'
    have hLr:∀sz g rs,LB≠.rows sz g rs:=by intro sz g rs h;rw [←hLB] at h;cases h
    have hBr:∀sz g rs,BB≠.rows sz g rs:=by intro sz g rs h;rw [←hBB] at h;cases h
    have hjl:J.length+3<J'.length:=by omega
    obtain ⟨v2,J2,ha,hg2,hst⟩:=aT.appendP (P:=Tryz.prog) (base:=base) (Z:=H++[.rows 5 0 [p.cells],.rows 1 0 [[v']]]) (J:=J'.set (J.length+3) BB++[.rows 172 0 [y.cells]]) (n:=H.length+2) (ts:=#[87,87]) (e:=83) (xd:=.slice 83) (rows:=l'.map aH.cells) (x:=.lst [y.cells] true) (ys:=[y.cells]) (v:=v')
     (by simp) (by simp) nO p5 (by simp) (by decide) (by simp) (by simp;omega) (((by simpa using hg':aT (H.length+2) 172 J' v' (l'.map aH.cells)).setL h1 (hLr _)).app _) (fun r hr=>by obtain ⟨y,_,rfl⟩:=List.mem_map.1 hr;simp) rfl (by simp) (by simp;omega)
    simp only [List.append_assoc,List.cons_append,List.nil_append] at ha
    have hJ2:J2[J.length+3]?=some BB:=hst _ _ (by rw [List.getElem?_append_left (by simpa using hjl),List.getElem?_set_self hjl]) (hBr _)
    have hjl2:J.length+3<J2.length:=(List.getElem?_eq_some_iff.1 hJ2).1
    have hkeep:∀j blk,j≠J.length+3→J'[j]?=some blk→(∀g rs,blk≠.rows 172 g rs)→(J2.set (J.length+3) LB)[j]?=some blk:=by
     intro j blk hj hjb hne
     rw [List.getElem?_set_ne (Ne.symm hj)]
     refine hst _ _ ?_ hne
     rw [List.getElem?_append_left (by simpa using (List.getElem?_eq_some_iff.1 hjb).1),List.getElem?_set_ne (Ne.symm hj)];exact hjb
    obtain ⟨b,hb⟩:∃b,b=(H++[bQ.rows 5 0 [p.cells]]).length+1+(J.length+3):=⟨_,rfl⟩
    have hgetL:∀L,(H++bQ.rows 5 0 [p.cells]::.rows 1 0 [[v']]::(J'++L))[b]?=some LB:=fun L=>by
     have:=jm (H++[bQ.rows 5 0 [p.cells]]) (J'++L) (.rows 1 0 [[v']]) (J.length+3)
     rw [List.getElem?_append_left hjl,h1,←hb] at this
     simpa using this
    have hsetL:∀L x,(H++bQ.rows 5 0 [p.cells]::.rows 1 0 [[v']]::(J'++L)).set b x=H++bQ.rows 5 0 [p.cells]::.rows 1 0 [[v']]::(J'.set (J.length+3) x++L):=fun L x=>by
     have:=pA (H++[bQ.rows 5 0 [p.cells]]) (J'++L) (.rows 1 0 [[v']]) x (J.length+3)
     rw [←hb,List.set_append_left _ _ hjl] at this
     simpa using this
    have hget2:∀v,(H++bQ.rows 5 0 [p.cells]::.rows 1 0 [[v]]::J2)[b]?=some BB:=fun v=>by
     have:=jm (H++[bQ.rows 5 0 [p.cells]]) J2 (.rows 1 0 [[v]]) (J.length+3)
     rw [hJ2,←hb] at this
     simpa using this
    have hset2:∀v x,(H++bQ.rows 5 0 [p.cells]::.rows 1 0 [[v]]::J2).set b x=H++bQ.rows 5 0 [p.cells]::.rows 1 0 [[v]]::J2.set (J.length+3) x:=fun v x=>by
     have:=pA (H++[bQ.rows 5 0 [p.cells]]) J2 (.rows 1 0 [[v]]) x (J.length+3)
     rw [←hb] at this
     simpa using this
    have hbb:base≤b:=by rw [hb];simp;omega
    refine ⟨H++.rows 5 0 [p.cells]::.rows 1 0 [[v2]]::J2.set (J.length+3) LB,⟨v2,J2.set (J.length+3) LB,by simp,?_,?_,?_,?_,?_,.inr (lY (P:=Tryz.prog) (e:=83) (xd:=.slice 83) (by simp) (by simp) nO p5 (x:=.lst [y.cells] true) (ys:=[y.cells]) rfl (by simp) ha)⟩,?_,fun K=>?_⟩
    ·have:=hg2.setL hJ2 (hBr _) (x:=LB)
     simpa using this
    ·rw [List.getElem?_set_self hjl2]
    ·exact hkeep _ _ (by omega) h2 (by intro g rs h;cases h)
    ·exact hkeep _ _ (by omega) h3 (by intro g rs h;cases h)
    ·simp;omega
    ·intro b' g rs hb' hx
     obtain ⟨j,rfl⟩:∃j,b'=(H++[bQ.rows 5 0 [p.cells]]).length+1+j:=⟨b'-((H++[bQ.rows 5 0 [p.cells]]).length+1),by omega⟩
     rw [jm] at hx
     have h5:=hkeep j _ (by omega) hx (by intro g' rs' h;cases h)
     have:=jm (H++[bQ.rows 5 0 [p.cells]]) (J2.set (J.length+3) LB) (.rows 1 0 [[v2]]) j
     rw [h5] at this
     simpa using this
    ·rw [←hb]
     have hv:=hgetL []
     rw [List.append_nil] at hv
     rw [←hLB] at hv
     refine aD.eq (ir hr (hget:=by simpa using hv) hbb rfl (by decide) (by kernel_rfl) (by kernel_rfl) ?_) K
     rw [hLB,hBB]
     have hrow:ax (J'.set (J.length+3) BB++[bQ.rows 172 0 [y.cells]]) J'.length 0 172 0=some y.cells:=by simp [ax]
     have hb1:base≤H.length+(J'.length+1+1):=by omega
     have hb2:base≤H.length+1:=by omega
     simp [q6,ao,aE,aj,au,hgetL,hsetL,ha,hget2,hset2,hg2.cellv,hg2.leafv,hLB,hrow,hb1,hb2]
     rfl
   ·intro v' J' hg' hJ' hv'
    have hXl:(H++bQ.rows 5 0 [p.cells]::.rows 1 0 [[v]]::(J++[bQ.rows 139 0 [c.cells],.rows 139 0 [c.cells],.rows 1 0 [[.int .i64 (own.length:Int)]]])).length=(H++[bQ.rows 5 0 [p.cells]]).length+1+(J.length+3):=by simp;omega
    rw [hXl,gf ((jm _ _ _ _).trans hJ'),pA]
    have hg2:=hg'.setL (x:=.dead) hJ' (by intro g rs h;cases h)
    simp [q1,q6,q20,q21,q22]
    refine ⟨h,ay h (by omega),?_⟩
    rw [hsucc]
    exact ⟨v',_,by simpa using hg2,hv',rfl,rfl⟩
  ·have h':i=p.changes.length:=by omega
   subst h'
   rw [List.take_length] at hg
   simp [q1,q6,q20,q21,q22]
   exact ⟨v,J,hg,hv,rfl,rfl⟩
 clear q1 q6
 rintro s H' ⟨q1,q6,v,J,hg,hv,rfl⟩
 have hel':¬(65536:Int)<(dK p).enc.length:=by omega
 simp [q1,q6,e2,an,hel']
 rw [hat];exact ⟨v,J,hg,hv,rfl,rfl⟩
end Go.Proofs.Ev
namespace Go.Proofs.Ev
open Go.Proofs
variable {C:bG}
structure fk (C:bG):Prop extends gQ C where
 pureP:∀f,f∈[121,78,40,167,106,57,66]→C.pure f=true
theorem Ck (S:fk C) (p:aC) (hp:p.Good):cE Tryz.prog C 121 [] [.agg p.cells] (.int .i64 0):=by
 refine aB (S.pureP _ (by decide)) fun H=>am Tryz.func121 rfl (S.prim _ (by decide)) (by simp) (by kernel_rfl) ?_
 unfold Tryz.f121
 obtain ⟨v,J,_,_,e⟩:=pg S.togQ p hp (base:=H.length) (H:=H++[.rows 5 0 [p.cells]]) (by simp)
 simp [aG,e]
theorem Ah (S:fk C) (p:aC) (hp:p.Good):cE Tryz.prog C 78 [] [.agg p.cells] (.tup [.str (dK p).enc,.int .i64 0]):=by
 refine aB (S.pureP _ (by decide)) fun H=>am Tryz.func78 rfl (S.prim _ (by decide)) (by simp) (by kernel_rfl) ?_
 unfold Tryz.f78
 obtain ⟨v,J,_,_,e⟩:=pg S.togQ p hp (base:=H.length) (H:=H++[.rows 5 0 [p.cells]]) (by simp)
 simp [aG,e]
 exact bN (by simp) (by simp)
def aC.dig (p:aC):ar:=⟨AQ (dK p).enc,by simp [AQ,sL],DE _⟩
theorem xT (S:fk C) (p:aC) (hp:p.Good):cE Tryz.prog C 40 [] [.agg p.cells] (.tup [.agg p.dig.cells,.int .i64 0]):=by
 refine aB (S.pureP _ (by decide)) fun H=>am Tryz.func40 rfl (S.prim _ (by decide)) (by simp) (by kernel_rfl) ?_
 unfold Tryz.f40
 obtain ⟨_,hel⟩:=hp.encode
 have e:=(Ah S p hp).eq
 have es:=(H6 S.toeP (dK p).enc (by omega)).eq
 have hd:dig (AQ (dK p).enc)=p.dig.cells:=rfl
 rw [hd] at es
 simp [aG,e,es,ao,aE]
 exact ⟨by decide,by decide,bN (aq (by simp [AV.closed])) (by simp)⟩
end Go.Proofs.Ev
namespace Go.Proofs.Ev
open Go.Proofs
variable {C:bG}
structure aZ where
 i:List aI→List aI
 d:List ar→List ar
structure d9 (C:bG) (σ:aZ):Prop extends fk C where
 permI:∀l,(σ.i l).Perm l
 sortI:∀{base:Nat} {H:ag} {b g:Nat} {l:List aI},l.length≤2^40→base≤b→H[b]?=some (.rows 33 g (l.map aI.cells))→∀K:AV→ag→Prop,
  aD Tryz.prog C base (.fn 166 []) [.sl b g 33 0 l.length,.fn 61 []] H K=K (.tup []) (H.set b (.rows 33 g ((σ.i l).map aI.cells)))
 sortI0:∀{base:Nat} {H:ag} (K:AV→ag→Prop),aD Tryz.prog C base (.fn 166 []) [.nils,.fn 61 []] H K=K (.tup []) H
theorem Jz (S:fk C) {base b:Nat} {H:ag} {d:ar} (hg:H[b]?=some (.rows 32 0 [d.cells])) (x:aI) (K:AV→ag→Prop) :
 aD Tryz.prog C base (.fn 167 [.ptr b 0 32 0 0]) [.agg x.cells] H K=K (.agg (ba x d).cells) H:=by
 have hb:b<H.length:=(List.getElem?_eq_some_iff.1 hg).1
 have hg2:∀L,ax (H++L) b 0 32 0=some d.cells:=fun L=>by
  simp only [ax];rw [List.getElem?_append_left hb,hg];simp
 refine aD.eq (d5 (S.pureP _ (by decide)) (am Tryz.func167 rfl (S.prim _ (by decide)) (by simp) (by kernel_rfl) ?_)) K
 unfold Tryz.f167
 have eo:=(sX S.tobS x).eq
 have hd:d.cells=dig d.d:=rfl
 have h32:d.d.length=32:=d.h
 have ht:List.take 32 (dig d.d)=dig d.d:=List.take_of_length_le (by simp [dig,h32])
 have hlf:∀y∈dig d.d,y.leaf=true:=by intro y hy;obtain ⟨n,_,rfl⟩:=List.mem_map.1 hy;rfl
 cases hz:bC x.d with
 | false=>simp [aG,an,eo,hz,ao,aE,ba,aq,AV.closed]
 | true =>
  by_cases hn:0≤x.n
  ·have hc:Ev.dig d.d++[AV.int .i64 x.n]=aI.cells ⟨d.d,x.n,d.h,d.b⟩:=rfl
   simp [aG,an,eo,hz,hn,hg2,hd,ht,h32,hlf,hc,ao,aE,ba]
   simp [aq,AV.closed]
  ·simp [aG,an,eo,hz,hn,ao,aE,ba,aq,AV.closed]
end Go.Proofs.Ev
namespace Go.Proofs.Ev
open Go.Proofs
variable {C:bG} {σ:aZ}
def DV (d:ar) (x:aH):aH:={ x with id:=ba x.id d }
def pH (σ:aZ) (d:ar) (x:aH):aH :=
 let y:=qS d (sF d (sE d (DV d x)))
 {y with over:=σ.i (x.over.map fun z=>ba z d),overK:=dS x.over }
def vy (σ:aZ) (d:ar) (start:Nat) (X:ag) (x:aH) (row:List AV):Prop :=
 ∃v,row=(pH σ d x).cells.take 171++[v]∧((x.over=[]∧v=.nils)∨(x.over≠[]∧∃b g,v=.sl b g 33 0 (pH σ d x).over.length∧X[b]?=some (.rows 33 g ((pH σ d x).over.map aI.cells))∧start≤b))
theorem vy.mono {d:ar} {start:Nat} {X X':ag} {x:aH} {row:List AV} (h:vy σ d start X x row) (hX:∀(b g:Nat) (rs:List (List AV)),X[b]?=some (bQ.rows 33 g rs)→X'[b]?=some (bQ.rows 33 g rs)):vy σ d start X' x row:=by
 obtain ⟨v,h1,h2⟩:=h
 refine ⟨v,h1,?_⟩
 rcases h2 with h2 | ⟨h2,b,g,h3,h4,h5⟩
 ·exact .inl h2
 ·exact .inr ⟨h2,b,g,h3,hX _ _ _ h4,h5⟩
def CS (bl g n bd i:Nat) (s:Sl):Prop:=s 4=.sl bl g 172 0 n∧s 8=.fn 167 [.ptr bd 0 32 0 0]∧s 32=.sl bl g 172 0 n∧s 33=.int .i64 n∧s 34=.int .i64 i
def CI (X:ag) (bl g n bd i:Nat) (s:Sl):Prop:=CS bl g n bd i s∧s 9=.int .i64 i∧s 10=.ptr X.length 0 172 0 0
structure CX (σ:aZ) (d:ar) (start bl g bd:Nat) (L:List aH) (i:Nat) (X:ag):Prop where
 rows:∃rows,X[bl]?=some (.rows 172 g rows)∧rows.length=L.length∧(∀j x,j<i→L[j]?=some x→∃row,rows[j]?=some row∧vy σ d start X x row)∧(∀j x,i≤j→L[j]?=some x→rows[j]?=some x.cells)
 dig:X[bd]?=some (.rows 32 0 [d.cells])
 low:start≤bl∧start≤X.length
theorem Gf (d:ar) (x:aH):(qS d (sF d (sE d (DV d x)))).over=x.over∧(qS d (sF d (sE d (DV d x)))).overK=x.overK:=by
 unfold qS sF sE DV
 repeat' split
 all_goals exact ⟨rfl,rfl⟩
set_option maxRecDepth 100000 in
set_option maxHeartbeats 8000000 in
theorem vd (S:d9 C σ) (p:aC) (hp:p.Good) (H:ag):dW Tryz.prog C H.length 106 [.agg p.cells] H fun r H'=>∃X bl g bd,H'=X∧r=.tup [.sl bl g 172 0 (aR p).length,.int .i64 0]∧CX σ p.dig H.length bl g bd (aR p) (aR p).length X:=by
 refine am Tryz.func106 rfl (S.prim _ (by decide)) (by simp) (by kernel_rfl) ?_
 unfold Tryz.f106
 obtain ⟨v,J,hg,hvs,ee⟩:=pg S.togQ p hp (base:=H.length) (H:=H++[.rows 5 0 [p.cells]]) (by simp)
 have ei:=(xT S.tofk p hp).eq
 obtain ⟨L,hL⟩:∃L,L=aR p:=⟨_,rfl⟩
 have hn:=hp.n
 have hover:=hp.fit.atomOver
 rw [←hL] at hg hn hover ⊢
 have hLne:L≠[]:=by
  obtain ⟨_,hc0,_⟩:=hp.head
  rw [hL,hp.atoms]
  cases hc:p.changes with
  | nil=>rw [hc] at hc0;exact absurd rfl hc0
  | cons c l =>
   have h1:=(uo c 0 (hp.good (c:=c) (by rw [hc];simp)).lnn).2
   have h2:=kS l ([]++cg c 0)
   intro h0
   rw [bk,List.length_nil] at h0
   rw [h0] at h2
   exact h1 (List.length_eq_zero_iff.1 (by simpa using h2))
 obtain ⟨d,hd⟩:∃d,d=p.dig:=⟨_,rfl⟩
 rw [←hd] at ei ⊢
 simp only [List.append_assoc,List.cons_append,List.nil_append,List.length_append,List.length_cons,List.length_nil,Nat.zero_add] at hg ee
 refine cut (fun s H'=>s 1=.ptr H.length 0 5 0 0∧H'=H++[.rows 5 0 [p.cells]]) ?_ ?_
 ·simp [aG]
 rintro s H' ⟨q1,rfl⟩
 refine cut (fun s H'=>s 1=.ptr H.length 0 5 0 0∧s 4=v∧s 6=.int .i64 0∧H'=H++.rows 5 0 [p.cells]::.rows 5 0 [p.cells]::.rows 1 0 [[v]]::J) ?_ ?_
 ·simp [q1,ee]
 rintro s H' ⟨q1,q4,q6,rfl⟩
 refine cut (fun s H'=>s 1=.ptr H.length 0 5 0 0∧s 4=v∧H'=H++.rows 5 0 [p.cells]::.rows 5 0 [p.cells]::.rows 1 0 [[v]]::J) ?_ ?_
 ·simp [q1,q4,q6]
 clear q1 q4 q6
 rintro s H' ⟨q1,q4,rfl⟩
 refine cut (fun s H'=>s 4=v∧s 7=.ptr (H.length+(J.length+3)) 0 32 0 0∧s 6=.int .i64 0∧H'=H++.rows 5 0 [p.cells]::.rows 5 0 [p.cells]::.rows 1 0 [[v]]::(J++[.rows 32 0 [d.cells]])) ?_ ?_
 ·simp [q1,q4,ei,ao,aE]
  decide
 rintro s H' ⟨q4,q7,q6,rfl⟩
 obtain ⟨b,g,rfl,hb⟩:∃b g,v=.sl (H.length+1+2+b) g 172 0 L.length∧J[b]?=some (.rows 172 g (L.map aH.cells)):=by
  rcases hg with ⟨h0,_⟩ | h0 | ⟨b,g,h0,hb⟩
  ·exact absurd (by simpa using h0) hLne
  ·rw [h0] at hvs
   rcases hvs with h | ⟨_,_,_,h⟩<;>cases h
  ·exact ⟨b,g,by rw [h0,List.length_map],hb⟩
 obtain ⟨bl,hbl⟩:∃bl,bl=H.length+1+2+b:=⟨_,rfl⟩
 obtain ⟨bd,hbd⟩:∃bd,bd=H.length+(J.length+3):=⟨_,rfl⟩
 rw [←hbl] at q4
 rw [←hbd] at q7
 have hbJ:b<J.length:=(List.getElem?_eq_some_iff.1 hb).1
 have hX0:CX σ d H.length bl g bd L 0 (H++.rows 5 0 [p.cells]::.rows 5 0 [p.cells]::.rows 1 0 [[.sl (H.length+1+2+b) g 172 0 L.length]]::(J++[.rows 32 0 [d.cells]])):=by
  refine ⟨⟨L.map aH.cells,?_,by simp,fun j x hj=>by omega,fun j x _ hx=>by simp [hx]⟩,?_,by omega,by simp⟩
  ·rw [hbl,show H.length+1+2+b=H.length+(b+3) by omega,bt]
   simp only [List.getElem?_cons_succ]
   rw [List.getElem?_append_left hbJ];exact hb
  ·rw [hbd,bt];simp
 obtain ⟨X0,hX0e⟩:∃X0,X0=(H++.rows 5 0 [p.cells]::.rows 5 0 [p.cells]::.rows 1 0 [[.sl (H.length+1+2+b) g 172 0 L.length]]::(J++[.rows 32 0 [d.cells]])):=⟨_,rfl⟩
 rw [←hX0e] at hX0 ⊢
 refine cut (fun s H'=>s 4=.sl bl g 172 0 L.length∧s 7=.ptr bd 0 32 0 0∧H'=X0) ?_ ?_
 ·simp [q4,q6,q7]
 clear q4 q6 q7
 rintro s X ⟨q4,q7,rfl⟩
 refine cut (fun s H'=>s 4=.sl bl g 172 0 L.length∧s 8=.fn 167 [.ptr bd 0 32 0 0]∧H'=X) ?_ ?_
 ·simp [q4,q7]
 clear q4 q7
 rintro s X ⟨q4,q8,rfl⟩
 clear hX0e
 refine cut (fun s X=>s 4=.sl bl g 172 0 L.length∧CX σ d H.length bl g bd L L.length X) ?_ ?_
 rotate_left
 ·rintro s X ⟨q4,hX⟩
  simp [q4]
  exact ⟨bl,g,⟨rfl,rfl⟩,bd,hX⟩
 simp [q4,q8]
 refine az L.length (fun i s X=>CS bl g L.length bd i s∧CX σ d H.length bl g bd L i X) ?_ ?_
 ·exact ⟨⟨q4,q8,rfl,rfl,rfl⟩,hX0⟩
 clear q4 q8 hX0
 rintro i s X ⟨⟨q4,q8,q32,q33,q34⟩,hX⟩ hi
 by_cases h:i<L.length
 rotate_left
 ·have h':i=L.length:=by omega
  subst h'
  simp [q4,q8,q32,q33,q34]
  exact hX
 refine cut (fun s X'=>s 35=.bool true∧CS bl g L.length bd i s∧X'=X) ?_ ?_
 ·simp [q4,q8,q32,q33,q34,h,CS]
 clear q4 q8 q32 q33 q34
 rintro s X ⟨q35,⟨q4,q8,q32,q33,q34⟩,rfl⟩
 refine cut (fun s X'=>CS bl g L.length bd i s∧X'=X) ?_ ?_
 ·simp [q35,q4,q8,q32,q33,q34,CS]
 clear q35 q4 q8 q32 q33 q34
 rintro s X ⟨⟨q4,q8,q32,q33,q34⟩,rfl⟩
 refine cut (fun s X'=>CS bl g L.length bd i s∧CX σ d H.length bl g bd L (i+1) X') ?_ ?_
 rotate_left
 ·rintro s X ⟨⟨q4,q8,q32,q33,q34⟩,hX⟩
  simp [q4,q8,q32,q33,q34,CS,ay h (by omega),h]
  exact hX
 rw [cq]
 obtain ⟨x,hx⟩:∃x,L[i]?=some x:=⟨_,List.getElem?_eq_getElem h⟩
 have hxm:x∈L:=List.mem_of_getElem? hx
 have hxo:=hover x hxm
 obtain ⟨⟨rows,hr1,hr2,hr3,hr4⟩,hdg,hlow,hlow2⟩:=hX
 have hri:=hr4 i x (Nat.le_refl _) hx
 have hblX:bl<X.length:=(List.getElem?_eq_some_iff.1 hr1).1
 have hbdX:bd<X.length:=(List.getElem?_eq_some_iff.1 hdg).1
 have fe:∀(M:ag) (z:aI) (K:AV→ag→Prop),aD Tryz.prog C H.length (.fn 167 [.ptr bd 0 32 0 0]) [.agg z.cells] (X++M) K=K (.agg (ba z d).cells) (X++M):=fun M z K=>Jz S.tofk (by rw [List.getElem?_append_left hbdX];exact hdg) z K
 have hbr:ax X bl g 172 i=some x.cells:=by simp [ax,hr1,hri]
 have kp:∀(y:aH) (F:Code),True:=fun _ _=>trivial
 refine cut (fun s X'=>CI X bl g L.length bd i s∧X'=X++[.rows 172 0 [x.cells]]) ?_ ?_
 ·simp [q4,q8,q32,q33,q34,h,hbr,CI,CS,ao,aE,hlow2]
 clear q4 q8 q32 q33 q34
 rintro s X' ⟨⟨⟨q4,q8,q32,q33,q34⟩,q9,q10⟩,rfl⟩
 refine cut (fun s X'=>CI X bl g L.length bd i s∧X'=X++[.rows 172 0 [(DV d x).cells]]) ?_ ?_
 ·simp [q4,q8,q32,q33,q34,q9,q10,fe,CI,CS,ao,aE,hlow2,DV]
 clear q4 q8 q32 q33 q34 q9 q10
 obtain ⟨y1,hy1⟩:∃y1,y1=DV d x:=⟨_,rfl⟩
 rw [←hy1]
 rintro s X' ⟨⟨⟨q4,q8,q32,q33,q34⟩,q9,q10⟩,rfl⟩
 refine cut (fun s X'=>CI X bl g L.length bd i s∧X'=X++[.rows 172 0 [(sE d y1).cells]]) ?_ ?_
 ·by_cases hk:y1.kind=7
  ·simp [q4,q8,q32,q33,q34,q9,q10,fe,CI,CS,ao,aE,hlow2,sE,hk]
  ·simp [q4,q8,q32,q33,q34,q9,q10,fe,CI,CS,ao,aE,hlow2,sE,hk]
 clear q4 q8 q32 q33 q34 q9 q10
 obtain ⟨y2,hy2⟩:∃y2,y2=sE d y1:=⟨_,rfl⟩
 rw [←hy2]
 rintro s X' ⟨⟨⟨q4,q8,q32,q33,q34⟩,q9,q10⟩,rfl⟩
 refine cut (fun s X'=>CI X bl g L.length bd i s∧X'=X++[.rows 172 0 [(sF d y2).cells]]) ?_ ?_
 ·by_cases hk:y2.kind=2
  ·simp [q4,q8,q32,q33,q34,q9,q10,fe,CI,CS,ao,aE,hlow2,sF,hk]
  ·simp [q4,q8,q32,q33,q34,q9,q10,fe,CI,CS,ao,aE,hlow2,sF,hk]
 clear q4 q8 q32 q33 q34 q9 q10
 obtain ⟨y3,hy3⟩:∃y3,y3=sF d y2:=⟨_,rfl⟩
 rw [←hy3]
 rintro s X' ⟨⟨⟨q4,q8,q32,q33,q34⟩,q9,q10⟩,rfl⟩
 refine cut (fun s X'=>CI X bl g L.length bd i s∧X'=X++[.rows 172 0 [(qS d y3).cells]]) ?_ ?_
 ·by_cases hk:y3.kind=6
  ·simp [q4,q8,q32,q33,q34,q9,q10,fe,CI,CS,ao,aE,hlow2,qS,hk]
   rw [aN (h:=by kernel_rfl)]
   simp [q4,q8,q32,q33,q34,q9,q10,ao,aE,hlow2]
   rw [aN (h:=by kernel_rfl)]
   simp [q4,q8,q32,q33,q34,q9,q10]
  ·simp [q4,q8,q32,q33,q34,q9,q10,fe,CI,CS,ao,aE,hlow2,qS,hk]
 clear q4 q8 q32 q33 q34 q9 q10
 obtain ⟨y,hy⟩:∃y,y=qS d y3:=⟨_,rfl⟩
 rw [←hy]
 rintro s X' ⟨⟨⟨q4,q8,q32,q33,q34⟩,q9,q10⟩,rfl⟩
 obtain ⟨hyo,hyk⟩:=Gf d x
 rw [←hy1,←hy2,←hy3,←hy] at hyo hyk
 refine cut (fun s X'=>CI X bl g L.length bd i s∧s 11=.nils∧X'=X++[.rows 172 0 [y.cells]]) ?_ ?_
 ·simp [q4,q8,q32,q33,q34,q9,q10,CI,CS]
 clear q4 q8 q32 q33 q34 q9 q10
 rintro s X' ⟨⟨⟨q4,q8,q32,q33,q34⟩,q9,q10⟩,q11,rfl⟩
 obtain ⟨ov,hov⟩:∃ov,ov=x.over.map fun z=>ba z d:=⟨_,rfl⟩
 have hovl:ov.length=x.over.length:=by rw [hov];simp
 refine cut (fun s X'=>CI X bl g L.length bd i s∧∃v J,s 11=v∧aT (X.length+1) 33 J v (ov.map aI.cells)∧(x.over.length=0→v=.nils)∧(v=.nils∨∃b g l,v=.sl b g 33 0 l)∧X'=X++.rows 172 0 [y.cells]::J) ?_ ?_
 ·have hyl:y.over.length=x.over.length:=by rw [hyo]
  simp [q4,q8,q32,q33,q34,q9,q10,q11]
  refine az x.over.length (fun j s X'=>CI X bl g L.length bd i s∧s 74=aw y.overK (y.over.map aI.cells)∧s 75=.int .i64 x.over.length∧s 76=.int .i64 j∧
   ∃v J,s 11=v∧aT (X.length+1) 33 J v ((ov.take j).map aI.cells)∧(j=0→v=.nils)∧(v=.nils∨∃b g l,v=.sl b g 33 0 l)∧X'=X++.rows 172 0 [y.cells]::J) ?_ ?_
  ·refine ⟨⟨⟨q4,q8,q32,q33,q34⟩,q9,q10⟩,rfl,by simp [hyl],rfl,.nils,[],q11,.nils,fun _=>rfl,.inl rfl,rfl⟩
  clear q4 q8 q32 q33 q34 q9 q10 q11
  rintro j s X' ⟨⟨⟨q4,q8,q32,q33,q34⟩,q9,q10⟩,q74,q75,q76,v,J,q11,hg,hv0,hv,rfl⟩ hj
  by_cases hjl:j<x.over.length
  ·obtain ⟨z,hz⟩:∃z,x.over[j]?=some z:=⟨_,List.getElem?_eq_getElem hjl⟩
   have hyz:y.over[j]?=some z:=by rw [hyo];exact hz
   have hojz:ov[j]?=some (ba z d):=by rw [hov,List.getElem?_map,hz];rfl
   obtain ⟨v2,J2,ha,hg2,_⟩:=aT.appendP (P:=Tryz.prog) (base:=H.length) (Z:=X++[.rows 172 0 [y.cells]]) (J:=J++[.rows 33 0 [z.cells]]) (n:=X.length+1) (ts:=#[57,57]) (e:=27) (xd:=.slice 27) (rows:=(ov.take j).map aI.cells) (x:=.lst [(ba z d).cells] true) (ys:=[(ba z d).cells]) (v:=v)
    (by simp) (by simp) jS A7 (by simp) (by decide) (by simp) (by simp;omega) (hg.app _) (fun r hr=>by obtain ⟨y,_,rfl⟩:=List.mem_map.1 hr;simp) rfl (by simp) (by simp;omega)
   have hv2:=lY (P:=Tryz.prog) (e:=27) (xd:=.slice 27) (by simp) (by simp) jS A7 (x:=.lst [(ba z d).cells] true) (ys:=[(ba z d).cells]) rfl (by simp) ha
   simp only [List.append_assoc,List.cons_append,List.nil_append] at ha
   have fz:=fun K=>fe (.rows 172 0 [y.cells]::(J++[.rows 33 0 [z.cells]])) z K
   have ht:(ov.take (j+1)).map aI.cells=(ov.take j).map aI.cells++[(ba z d).cells]:=by rw [List.take_add_one,hojz,List.map_append];rfl
   have hrow:(y.over.map aI.cells)[j]?=some z.cells:=by rw [List.getElem?_map,hyz];rfl
   have hjy:j<y.over.length:=by rw [hyo];exact hjl
   have hb2:H.length≤X.length+(J.length+1):=by omega
   have hzz:y.over[j]=z:=by rw [List.getElem?_eq_getElem hjy] at hyz;exact Option.some.inj hyz
   simp [-List.getElem?_map,q4,q8,q32,q33,q34,q9,q10,q74,q75,q76,q11,hjl,hjy,hrow,hzz,ao,aE,fz,aj,au,ha,ay hjl (by omega),CI,CS,hb2]
   exact ⟨by rw [←List.map_take,ht];exact hg2,.inr hv2⟩
  ·have h':j=x.over.length:=by omega
   subst h'
   rw [←hovl,List.take_length] at hg
   simp [q4,q8,q32,q33,q34,q9,q10,q74,q75,q76,CI,CS]
   exact ⟨J,by rw [q11];exact hg,fun h=>by rw [q11];exact hv0 (by rw [h];rfl),by rw [q11];exact hv,rfl⟩
 clear q4 q8 q32 q33 q34 q9 q10 q11
 rintro s X' ⟨⟨⟨q4,q8,q32,q33,q34⟩,q9,q10⟩,v,J,q11,hg,hv0,hv,rfl⟩
 obtain ⟨so,hso⟩:∃so,so=σ.i ov:=⟨_,rfl⟩
 have hsol:so.length=ov.length:=by rw [hso];exact (S.permI ov).length_eq
 refine cut (fun s X'=>CI X bl g L.length bd i s∧∃J,s 11=v∧((x.over=[]∧v=.nils)∨(x.over≠[]∧∃b g,v=.sl (X.length+1+b) g 33 0 so.length∧J[b]?=some (.rows 33 g (so.map aI.cells))))∧X'=X++.rows 172 0 [y.cells]::J) ?_ ?_
 ·rcases hv with hv | ⟨b1,g1,l1,hv⟩
  ·have hov0:ov=[]:=by
    rcases hg with ⟨h0,_⟩ | h0 | ⟨b,g,h0,_⟩
    ·simpa using h0
    ·rw [hv] at h0;cases h0
    ·rw [hv] at h0;cases h0
   have hx0:x.over=[]:=List.length_eq_zero_iff.1 (by rw [←hovl,hov0];rfl)
   have es:=fun H' K=>S.sortI0 (base:=H.length) (H:=H') K
   subst hv
   simp [q4,q8,q32,q33,q34,q9,q10,q11,es,CI,CS,hx0]
  ·obtain ⟨b2,g2,hv2,hb2⟩:∃b2 g2,v=.sl (X.length+1+b2) g2 33 0 ov.length∧J[b2]?=some (.rows 33 g2 (ov.map aI.cells)):=by
    rcases hg with ⟨_,h0⟩ | h0 | ⟨b,g,h0,hb⟩
    ·rw [hv] at h0;cases h0
    ·rw [hv] at h0;cases h0
    ·exact ⟨b,g,by rw [h0,List.length_map],hb⟩
   have hget:(X++bQ.rows 172 0 [y.cells]::J)[X.length+1+b2]?=some (.rows 33 g2 (ov.map aI.cells)):=by rw [jm];exact hb2
   have es:=fun K=>S.sortI (base:=H.length) (b:=X.length+1+b2) (by omega) (by omega) hget K
   rw [pA,←hso] at es
   have hbJ2:b2<J.length:=(List.getElem?_eq_some_iff.1 hb2).1
   have hx0:x.over≠[]:=fun h0=>by have:=hv0 (by rw [h0];rfl);rw [hv] at this;cases this
   rw [hv2] at q11
   simp [q4,q8,q32,q33,q34,q9,q10,q11,es,CI,CS,hx0]
   exact ⟨hv2.symm,b2,g2,by rw [hv2,hsol],by simp [hbJ2]⟩
 clear q4 q8 q32 q33 q34 q9 q10 q11
 rintro s X' ⟨⟨⟨q4,q8,q32,q33,q34⟩,q9,q10⟩,J1,q11,hv1,rfl⟩
 have hvl:v.leaf=true:=by rcases hv with h | ⟨_,_,_,h⟩<;>rw [h]<;>rfl
 have hvc:v.cells=[v]:=by rcases hv with h | ⟨_,_,_,h⟩<;>rw [h]<;>rfl
 obtain ⟨row,hrow⟩:∃row,row=y.cells.take 171++[v]:=⟨_,rfl⟩
 have hrl:row.length=172:=by rw [hrow];simp
 have hrt:row.take 172=row:=List.take_of_length_le (by omega)
 have hrd:row.drop 172=[]:=List.drop_of_length_le (by omega)
 have hra:∀z∈row,z.leaf=true:=by
  intro z hz
  rw [hrow] at hz
  rcases List.mem_append.1 hz with hz | hz
  ·exact List.all_eq_true.1 y.leafs z (List.mem_of_mem_take hz)
  ·rw [List.mem_singleton.1 hz];exact hvl
 refine cut (fun s X'=>CI X bl g L.length bd i s∧X'=X++.rows 172 0 [row]::J1) ?_ ?_
 ·simp [q4,q8,q32,q33,q34,q9,q10,q11,CI,CS,ao,aE,hlow2,hvl,hvc,hrow]
 clear q4 q8 q32 q33 q34 q9 q10 q11
 rintro s X' ⟨⟨⟨q4,q8,q32,q33,q34⟩,q9,q10⟩,rfl⟩
 have hgetA:∀M:ag,(X++M)[bl]?=some (.rows 172 g rows):=fun M=>by rw [List.getElem?_append_left hblX];exact hr1
 have hsetA:∀(M:ag) (B:bQ),(X++M).set bl B=X.set bl B++M:=fun M B=>List.set_append_left _ _ hblX
 have hir:i<rows.length:=by omega
 have hrx:rows[i]=x.cells:=by rw [List.getElem?_eq_getElem hir] at hri;exact Option.some.inj hri
 simp [q4,q8,q32,q33,q34,q9,q10,CS,ao,hlow,hgetA,hsetA,h,hir,hrx,hrl,hrt,hrd]
 have hsl:(X.set bl (.rows 172 g (rows.set i row))).length=X.length:=by simp
 have hmono:∀(b g':Nat) (rs:List (List AV)),X[b]?=some (bQ.rows 33 g' rs)→(X.set bl (.rows 172 g (rows.set i row))++bQ.rows 172 0 [row]::J1)[b]?=some (bQ.rows 33 g' rs):=by
  intro b g' rs hb
  have hbX:=(List.getElem?_eq_some_iff.1 hb).1
  rw [List.getElem?_append_left (by omega),List.getElem?_set_ne]
  ·exact hb
  ·rintro rfl
   rw [hr1] at hb
   cases hb
 have hyx:qS d (sF d (sE d (DV d x)))=y:=by rw [hy,hy3,hy2,hy1]
 have hap:pH σ d x={ y with over:=so,overK:=dS x.over }:=by unfold pH;rw [hyx,hso,hov]
 refine ⟨hra,⟨⟨rows.set i row,?_,by simp [hr2],?_,?_⟩,?_,⟨hlow,by simp;omega⟩⟩⟩
 ·rw [List.getElem?_append_left (by omega),List.getElem?_set_self hblX]
 ·intro j x' hj hx'
  by_cases hji:j=i
  ·subst hji
   rw [hx] at hx'
   cases hx'
   refine ⟨row,by rw [List.getElem?_set_self hir],v,?_,?_⟩
   ·rw [hrow,hap,aH.tk171,aH.tk171]
   ·rcases hv1 with hv1 | ⟨h1,b',g',h2,h3⟩
    ·exact .inl hv1
    ·refine .inr ⟨h1,X.length+1+b',g',?_,?_,by omega⟩
     ·rw [hap];exact h2
     ·rw [hap]
      have:=jm (X.set bl (.rows 172 g (rows.set j row))) J1 (.rows 172 0 [row]) b'
      rw [hsl,h3] at this
      exact this
  ·obtain ⟨row',h1,h2⟩:=hr3 j x' (by omega) hx'
   exact ⟨row',by rw [List.getElem?_set_ne (Ne.symm hji)];exact h1,h2.mono hmono⟩
 ·intro j x' hj hx'
  rw [List.getElem?_set_ne (by omega)]
  exact hr4 j x' (by omega) hx'
 ·rw [List.getElem?_append_left (by omega),List.getElem?_set_ne]
  ·exact hdg
  ·rintro rfl
   rw [hr1] at hdg
   cases hdg
theorem zp {H:ag} {k e:Nat} {a b c:List AV} (ha:AV.closeds a=true) (hb:b.mapM (aJ H k e)=some c):(a++b).mapM (aJ H k e)=some (a++c):=by
 rw [List.mapM_append,c9 ha,hb];rfl
theorem xc {n:Nat}:∀{l:List AV},AV.closeds l=true→AV.closeds (l.take n)=true:=by
 induction n with
 | zero=>intro l _;rfl
 | succ n ih =>
  intro l h
  cases l with
  | nil=>rfl
  | cons x l =>
   simp only [AV.closeds,Bool.and_eq_true] at h
   rw [List.take_succ_cons]
   simp only [AV.closeds,Bool.and_eq_true]
   exact ⟨h.1,ih h.2⟩
theorem vy.freeze {d:ar} {start:Nat} {X:ag} {x:aH} {row:List AV} (h:vy σ d start X x row) (hp:∀l,(σ.i l).Perm l):row.mapM (aJ X start 1)=some (pH σ d x).cells:=by
 obtain ⟨v,rfl,h⟩:=h
 have hc:=xc (n:=171) (aH.closed (pH σ d x))
 have hcl:AV.closedss ((pH σ d x).over.map aI.cells)=true:=aM aI.closed _
 have hvv:aJ X start 1 v=some (aw (pH σ d x).overK ((pH σ d x).over.map aI.cells)):=by
  rcases h with ⟨h1,rfl⟩ | ⟨h1,b,g,rfl,h2,h3⟩
  ·have h0:(pH σ d x).over=[]:=by
    show σ.i (x.over.map fun z=>ba z d)=[]
    rw [h1];exact (hp []).eq_nil
   have hk:(pH σ d x).overK=.nil:=by show dS x.over=_;rw [h1];rfl
   rw [h0,hk];rfl
  ·have hk:(pH σ d x).overK=.loose:=by
    show dS x.over=_
    unfold dS
    cases hx:x.over with
    | nil=>exact absurd hx h1
    | cons _ _=>rfl
   have:=fF (d:=0) h2 h3 hcl
   rw [List.length_map] at this
   rw [hk,this]
   cases ((pH σ d x).over.map aI.cells)<;>rfl
 have:=zp (H:=X) (k:=start) (e:=1) (b:=[v]) (c:=[aw (pH σ d x).overK ((pH σ d x).over.map aI.cells)]) hc (by simp [hvv])
 rw [this,aH.overU]
theorem CX.freeze {d:ar} {start bl g bd:Nat} {L:List aH} {X:ag} (h:CX σ d start bl g bd L L.length X) (hp:∀l,(σ.i l).Perm l):aJ X start 2 (.sl bl g 172 0 L.length)=some (.lst ((L.map (pH σ d)).map aH.cells) false):=by
 obtain ⟨⟨rows,h1,h2,h3,_⟩,_,hlow,_⟩:=h
 have:=pj (d:=1) (qs:=(L.map (pH σ d)).map aH.cells) h1 hlow (xB (by simp [h2]) fun j hj hj'=>by
  have hjL:j<L.length:=by omega
  obtain ⟨row,hr,hR⟩:=h3 j L[j] hjL (List.getElem?_eq_getElem hjL)
  rw [List.getElem?_eq_getElem hj] at hr
  rw [Option.some.inj hr,hR.freeze hp]
  simp)
 rw [h2] at this
 exact this
def bj (σ:aZ) (p:aC):List aH:=(aR p).map (pH σ p.dig)
theorem vp (S:d9 C σ) (p:aC) (hp:p.Good):cE Tryz.prog C 106 [] [.agg p.cells] (.tup [.lst ((bj σ p).map aH.cells) false,.int .i64 0]):=by
 refine aB (S.pureP _ (by decide)) fun H=>?_
 refine (vd S p hp H).mono fun r X=>?_
 rintro ⟨X,bl,g,bd,rfl,rfl,hX⟩
 exact bN (hX.freeze S.permI) (by simp)
theorem j4 (S:d9 C σ) (p:aC) (hp:p.Good):cE Tryz.prog C 57 [] [.agg p.cells] (.tup [.lst ((bj σ p).map aH.cells) false,.int .i64 0]):=by
 refine aB (S.pureP _ (by decide)) fun H=>am Tryz.func57 rfl (S.prim _ (by decide)) (by simp) (by kernel_rfl) ?_
 unfold Tryz.f57
 have e:=(vp S p hp).eq
 simp [aG,e]
 exact aq (by simp [AV.closed,AV.closeds,rY,aM aH.closed])
end Go.Proofs.Ev
