/- Part 18 of the proof that quiltlaw38.BlameHistory returns true: no statement of its own. -/
import Derived.Test.YtkicailcmamaiaaGreatDoorH17
import Derived.Test.YtkicailcmamaiaaGreatDoorH13
set_option linter.all false
namespace Go.Proofs.Ev
open Go.Proofs
variable {C:bD}
theorem aQ.freezeK {Z J L:ae} {n d sz:Nat} {v:AV} {rows:List (List AV)} (hg:aQ n sz J v rows) (hn:n=Z.length) (hc:AV.closedss rows=true):∃k,aI (Z++(J++L)) 0 (d+1) v=some (am k rows):=by
 rcases hg with ⟨rfl,rfl⟩ | rfl | ⟨b,g,rfl,hb⟩
 ·exact ⟨.nil,by simp [am]⟩
 ·exact ⟨.exact,ak (by simpa [AV.closed] using hc)⟩
 ·exact ⟨.loose,aQ.freezeS (J:=J) (.inr (.inr ⟨b,g,rfl,hb⟩)) hn (Nat.zero_le _) hc ⟨_,_,_,rfl⟩⟩
theorem aQ.setL {n sz j:Nat} {J:ae} {v:AV} {rows:List (List AV)} {blk x:bL} (hg:aQ n sz J v rows) (hj:J[j]?=some blk) (hb:∀g rs,blk≠.rows sz g rs):aQ n sz (J.set j x) v rows:=by
 rcases hg with h | h | ⟨b,g,rfl,hb'⟩
 ·exact .inl h
 ·exact .inr (.inl h)
 ·refine .inr (.inr ⟨b,g,rfl,?_⟩)
  rw [List.getElem?_set_ne]
  ·exact hb'
  ·rintro rfl
   rw [hj] at hb'
   exact hb _ _ (Option.some.inj hb')
theorem pA (Z J:ae) (a x:bL) (j:Nat):(Z++a::J).set (Z.length+1+j) x=Z++a::J.set j x:=by
 rw [show Z.length+1+j=Z.length+(j+1) by omega,pP];rfl
theorem jg (Z J:ae) (a:bL) (j:Nat):(Z++a::J)[Z.length+1+j]?=J[j]?:=by
 rw [show Z.length+1+j=Z.length+(j+1) by omega,bq];rfl
def AA (v:AV):Prop:=v=.nils∨∃b g l,v=.sl b g 172 0 l
theorem l5 {P:Program} {base:Nat} {H:ae} {ts:Array TypeId} {e sz by_:Nat} {xd:TypeDesc} (h0:(ts[0]?).bind P.underlying=some (.slice e)) (h1:(ts[1]?).bind P.underlying=some xd) (hs:br P e=some sz) (hb:bytesOf P e=some by_) {s x:AV} {ys:List (List AV)}
 (hx:cq H xd x=some ys) (hne:ys≠[]) {v':AV} {H':ae} (h:bg P base H ts s x=some (v',H')):∃b g l,v'=.sl b g sz 0 l:=by
 unfold bg at h
 simp only [h0,h1,hs,hb,hx] at h
 split at h
 ·split at h
  ·rw [if_neg (by simpa using hne)] at h
   split at h
   ·simp only [Option.some.injEq,Prod.mk.injEq] at h;exact ⟨_,_,_,h.1.symm⟩
   ·cases h
  ·split at h
   ·split at h
    ·rename_i hc
     simp only [Option.some.injEq,Prod.mk.injEq] at h
     obtain ⟨_,_,_,hc,_⟩:=hc
     rw [hc]
     exact ⟨_,_,_,h.1.symm⟩
    ·cases h
   ·cases h
  ·cases h
 ·cases h
def Nv (Z:ae) (jl jc jf s0:Nat) (LB:bL) (c:aW) (first:Nat) (l:List aG) (X:ae):Prop :=
 ∃v J,X=Z++.rows 1 0 [[v]]::J∧aQ (Z.length+1) 172 J v (l.map aG.cells)∧J[jl]?=some LB∧J[jc]?=some (.rows 139 0 [c.cells])∧J[jf]?=some (.rows 1 0 [[.int .i64 (first:Int)]])∧s0≤J.length∧AA v
theorem DK {base N:Nat} {Z:ae} (hZ:base≤Z.length) {jl jc jf s0:Nat} {LB:bL} {c:aW} {first:Nat}
 (hy:∀{l:List aG} {X:ae} (y:aG),Nv Z jl jc jf s0 LB c first l X→l.length≤N→∃X',Nv Z jl jc jf s0 LB c first (l++[y]) X'∧(∀b g rs,Z.length+1+s0≤b→X[b]?=some (.rows 33 g rs)→X'[b]?=some (.rows 33 g rs))∧
  ∀K:AV→ae→Prop,aF Tryz.prog C base (.yld (Z.length+1+jl)) [.agg y.cells] X K=K (.bool true) X')
 (hl:jl<s0) (hLB:∀g rs,LB≠.rows 33 g rs) (hjc:jc<s0) (hjf:jf<s0) :
 Fy C base (Z.length+1+jl) (Z.length+1+jc) (Z.length+1+jf) (Z.length+1+s0) N c first (Nv Z jl jc jf s0 LB c first):={
 app:=by
  rintro l X L ⟨v,J,rfl,hg,h1,h2,h3,h4,h5⟩
  exact ⟨v,J++L,by simp,hg.app L,by rw [List.getElem?_append_left (List.getElem?_eq_some_iff.1 h1).1];exact h1,by rw [List.getElem?_append_left (List.getElem?_eq_some_iff.1 h2).1];exact h2,by rw [List.getElem?_append_left (List.getElem?_eq_some_iff.1 h3).1];exact h3,by simp;omega,h5⟩
 set:=by
  rintro l X b g rs rs' ⟨v,J,rfl,hg,h1,h2,h3,h4,h5⟩ hb hr
  obtain ⟨j,rfl⟩:∃j,b=Z.length+1+j:=⟨b-(Z.length+1),by omega⟩
  rw [jg] at hr
  refine ⟨v,J.set j (.rows 33 g rs'),pA _ _ _ _ _,hg.setL hr (by intro g' rs'' h;cases h),?_,?_,?_,by simpa using h4,h5⟩
  ·rw [List.getElem?_set_ne (by omega)];exact h1
  ·rw [List.getElem?_set_ne (by omega)];exact h2
  ·rw [List.getElem?_set_ne (by omega)];exact h3
 low:=by
  rintro l X ⟨v,J,rfl,hg,h1,h2,h3,h4,h5⟩
  constructor<;>simp<;>omega
 c:=by
  rintro l X ⟨v,J,rfl,hg,h1,h2,h3,h4,h5⟩
  rw [jg];exact h2
 f:=by
  rintro l X ⟨v,J,rfl,hg,h1,h2,h3,h4,h5⟩
  rw [jg];exact h3
 yld:=hy }
theorem BE (S:ga C) {Z J:ae} {base:Nat} (hZ:base≤Z.length) {v:AV} {own:List aG} {c:aW} (k1:1≤c.kind) (k7:c.kind≤7) (hl:c.lines.length≤2000) (hg:aQ (Z.length+1) 172 J v (own.map aG.cells)) (hv:AA v) (hn:own.length≤90000)
 {l:List AV} {ps:List Tmp} {assign body:Code} {nb pf pc:Nat} {X:ae} (hX:X=Z++.rows 1 0 [[v]]::(J++[.rows 139 0 [c.cells],.rows 139 0 [c.cells],.rows 1 0 [[.int .i64 (own.length:Int)]]]))
 (hnb:nb=Z.length+1+(J.length+3)) (hpf:pf=Z.length+1+(J.length+2)) (hpc:pc=Z.length+1+(J.length+1))
 (hy:∀(LB BB:bL) (_:cm l ps assign body=LB) (_:mI l ps assign body=BB) {l':List aG} {X':ae} (y:aG),Nv Z (J.length+3) (J.length+1) (J.length+2) (J.length+4) LB c own.length l' X'→l'.length≤95000→
  ∃X'',Nv Z (J.length+3) (J.length+1) (J.length+2) (J.length+4) LB c own.length (l'++[y]) X''∧
  (∀b g rs,Z.length+1+(J.length+4)≤b→X'[b]?=some (.rows 33 g rs)→X''[b]?=some (.rows 33 g rs))∧∀K:AV→ae→Prop,aF Tryz.prog C base (.yld (Z.length+1+(J.length+3))) [.agg y.cells] X' K=K (.bool true) X'')
 (K:AV→ae→Prop) (hK:∀v' J',aQ (Z.length+1) 172 J' v' ((own++cH c own.length).map aG.cells)→J'[J.length+3]?=some (cm l ps assign body)→AA v'→K (.tup []) (Z++.rows 1 0 [[v']]::J')) :
 dU Tryz.prog C base 280 [.yld nb,.ptr pf 0 1 0 0,.ptr pc 0 139 0 0] (X++[cm l ps assign body]) K:=by
 subst hnb;subst hpf;subst hpc
 refine Ec S c own.length k1 k7 (by omega) hl (DK (N:=95000) hZ (hy _ _ rfl rfl) (by omega) (by intro g rs h;cases h) (by omega) (by omega)) (own:=own) (by omega) ?_ K ?_
 ·exact ⟨v,J++[.rows 139 0 [c.cells],.rows 139 0 [c.cells],.rows 1 0 [[.int .i64 (own.length:Int)]],cm l ps assign body],by rw [hX];simp,hg.app _,by simp,by simp,by simp,by simp,hv⟩
 ·rintro X' ⟨v',J',rfl,hg',h1,_,_,_,h5⟩
  exact hK v' J' hg' h1 h5
theorem rN (l:List aG):AV.closedss (l.map aG.cells)=true:=aH aG.closed l
structure gQ (C:bD):Prop extends ga C where
 plainO:∀f,f∈[133]→C.pure f=false∧C.frz f=false
set_option maxRecDepth 100000 in
set_option maxHeartbeats 8000000 in
theorem oX (S:gQ C) (p:aA) (hp:p.Good) {base:Nat} {H:ae} (hb:base≤H.length) :
 ∃v J,aQ (H.length+2) 172 J v ((aT p).map aG.cells)∧AA v∧∀K:AV→ae→Prop,aF Tryz.prog C base (.fn 133 []) [.agg p.cells] H K=K (.tup [v,.str (dC p).enc,.int .i64 0]) (H++.rows 5 0 [p.cells]::.rows 1 0 [[v]]::J):=by
 suffices h:aF Tryz.prog C base (.fn 133 []) [.agg p.cells] H (fun v' H'=>∃v J,aQ (H.length+2) 172 J v ((aT p).map aG.cells)∧AA v∧v'=.tup [v,.str (dC p).enc,.int .i64 0]∧H'=H++.rows 5 0 [p.cells]::.rows 1 0 [[v]]::J) by
  obtain ⟨n,v1,H1,h1,v,J,hg,hv,rfl,rfl⟩:=h
  exact ⟨_,J,hg,hv,fun K=>aF.eq ⟨n,_,_,h1,rfl,rfl⟩ K⟩
 refine bW (S.plainO _ (by decide)).1 (S.plainO _ (by decide)).2 (aj Tryz.func133 rfl (S.prim _ (by decide)) (by simp) (by kernel_rfl) ?_)
 unfold Tryz.f133
 obtain ⟨hh,hch0,hch,_,_⟩:=hp.head
 obtain ⟨ht1,ht2,ht3⟩:=hp.tree
 obtain ⟨_,hel⟩:=hp.encode
 have e1:=(Hi S.tojV p hp.fit.ok.author).eq
 have e2:=(Hf S.tofZ p ht3).eq
 rw [hh] at e1
 rw [ht1,if_pos rfl,ht2] at e2
 have hat:=hp.atoms
 refine cut (fun s H'=>s 1=.ptr H.length 0 5 0 0∧H'=H++[.rows 5 0 [p.cells]]) ?_ ?_
 ·simp [aE]
 rintro s H' ⟨q1,rfl⟩
 refine cut (fun s H'=>s 1=.ptr H.length 0 5 0 0∧H'=H++[.rows 5 0 [p.cells]]) ?_ ?_
 ·simp [q1,e1]
 rintro s H' ⟨q1,rfl⟩
 refine cut (fun s H'=>s 1=.ptr H.length 0 5 0 0∧s 6=.ptr (H.length+1) 0 1 0 0∧H'=H++[.rows 5 0 [p.cells],.rows 1 0 [[.nils]]]) ?_ ?_
 ·simp [q1]
 rintro s H' ⟨q1,q6,rfl⟩
 refine cut (fun s H'=>s 1=.ptr H.length 0 5 0 0∧s 6=.ptr (H.length+1) 0 1 0 0∧∃v J,aQ (H.length+2) 172 J v ((co p.changes []).map aG.cells)∧AA v∧H'=H++.rows 5 0 [p.cells]::.rows 1 0 [[v]]::J) ?_ ?_
 ·simp [q1,q6]
  refine ay p.changes.length (fun i s H'=>s 1=.ptr H.length 0 5 0 0∧s 6=.ptr (H.length+1) 0 1 0 0∧s 20=am p.changesK (p.changes.map aW.cells)∧s 21=.int .i64 p.changes.length∧s 22=.int .i64 i∧
   ∃v J,aQ (H.length+2) 172 J v ((co (p.changes.take i) []).map aG.cells)∧AA v∧H'=H++.rows 5 0 [p.cells]::.rows 1 0 [[v]]::J) ?_ ?_
  ·exact ⟨q1,q6,rfl,rfl,rfl,.nils,[],.nils,.inl rfl,rfl⟩
  clear q1 q6
  rintro i s H' ⟨q1,q6,q20,q21,q22,v,J,hg,hv,rfl⟩ hi
  by_cases h:i<p.changes.length
  ·obtain ⟨c,hc⟩:∃c,c=p.changes[i]:=⟨_,rfl⟩
   have hci:p.changes[i]?=some c:=by rw [hc];exact List.getElem?_eq_getElem h
   obtain ⟨hcg,hcr⟩:=hp.change hci
   obtain ⟨own,hown⟩:∃own,own=co (p.changes.take i) []:=⟨_,rfl⟩
   rw [←hown] at hg hcr
   have hid:=l6 (p.changes.take i) [] (fun i y h=>by simp at h)
   rw [←hown] at hid
   have hn1:=su p.changes i
   have hn2:=hp.n
   rw [←hown] at hn1
   rw [hat] at hn2
   have hsucc:=xh hci
   rw [←hown] at hsucc
   have hcm:c∈p.changes:=hc▸List.getElem_mem h
   have ef:=(sD S.toiF c hcg (hp.fit.ok.changes c hcm).name).eq
   obtain ⟨k,hk⟩:=hg.freezeK (Z:=H++[.rows 5 0 [p.cells],.rows 1 0 [[v]]]) (L:=[.rows 139 0 [c.cells]]) (d:=5) (by simp) (rN own)
   have er:=(oh S.tolg c own k hcg hcr hid (by omega)).eq base (H++.rows 5 0 [p.cells]::.rows 1 0 [[v]]::(J++[.rows 139 0 [c.cells]])) (caps:=[]) (args:=[.agg c.cells,v])
    (by simp only [List.append_assoc,List.cons_append,List.nil_append] at hk;simp [hk,ak,AV.closed])
   have el:=fun HH=>hg.len (P:=Tryz.prog) (t:=89) (e:=72) (H:=HH) (by simp)
   rw [List.length_map] at el
   have em:=fun K=>Jd S.toga c own.length (base:=base) (H:=H++.rows 5 0 [p.cells]::.rows 1 0 [[v]]::(J++[.rows 139 0 [c.cells]])) K
   simp [q1,q6,q20,q21,q22,h,←hc,ao,aD,ef,er,el]
   refine ⟨by omega,?_⟩
   rw [em]
   simp [q1,q6,q20,q21,q22]
   refine gw (f:=280) (caps:=[.ptr (H.length+(J.length+4)) 0 1 0 0,.ptr (H.length+(J.length+3)) 0 139 0 0]) (by simp;omega) fun l hr=>?_
   refine BE (Z:=H++[.rows 5 0 [p.cells]]) (J:=J) (v:=v) (own:=own) (c:=c) S.toga (by simp;omega) hcg.k1 hcg.k7 hcg.lnn (by simpa using hg) hv (by omega) (by simp) (by simp;omega) (by simp;omega) (by simp;omega) ?_ _ ?_
   ·rintro LB BB hLB hBB l' X' y ⟨v',J',rfl,hg',h1,h2,h3,h4,h5⟩ hl'
    have hLr:∀sz g rs,LB≠.rows sz g rs:=by intro sz g rs h;rw [←hLB] at h;cases h
    have hBr:∀sz g rs,BB≠.rows sz g rs:=by intro sz g rs h;rw [←hBB] at h;cases h
    have hjl:J.length+3<J'.length:=by omega
    obtain ⟨v2,J2,ha,hg2,hst⟩:=aQ.appendP (P:=Tryz.prog) (base:=base) (Z:=H++[.rows 5 0 [p.cells],.rows 1 0 [[v']]]) (J:=J'.set (J.length+3) BB++[.rows 172 0 [y.cells]]) (n:=H.length+2) (ts:=#[89,89]) (e:=72) (xd:=.slice 72) (rows:=l'.map aG.cells) (x:=.lst [y.cells] true) (ys:=[y.cells]) (v:=v')
     (by simp) (by simp) kK od (by simp) (by decide) (by simp) (by simp;omega) (((by simpa using hg':aQ (H.length+2) 172 J' v' (l'.map aG.cells)).setL h1 (hLr _)).app _) (fun r hr=>by obtain ⟨y,_,rfl⟩:=List.mem_map.1 hr;simp) rfl (by simp) (by simp;omega)
    simp only [List.append_assoc,List.cons_append,List.nil_append] at ha
    have hJ2:J2[J.length+3]?=some BB:=hst _ _ (by rw [List.getElem?_append_left (by simpa using hjl),List.getElem?_set_self hjl]) (hBr _)
    have hjl2:J.length+3<J2.length:=(List.getElem?_eq_some_iff.1 hJ2).1
    have hkeep:∀j blk,j≠J.length+3→J'[j]?=some blk→(∀g rs,blk≠.rows 172 g rs)→(J2.set (J.length+3) LB)[j]?=some blk:=by
     intro j blk hj hjb hne
     rw [List.getElem?_set_ne (Ne.symm hj)]
     refine hst _ _ ?_ hne
     rw [List.getElem?_append_left (by simpa using (List.getElem?_eq_some_iff.1 hjb).1),List.getElem?_set_ne (Ne.symm hj)];exact hjb
    obtain ⟨b,hb⟩:∃b,b=(H++[bL.rows 5 0 [p.cells]]).length+1+(J.length+3):=⟨_,rfl⟩
    have hgetL:∀L,(H++bL.rows 5 0 [p.cells]::.rows 1 0 [[v']]::(J'++L))[b]?=some LB:=fun L=>by
     have:=jg (H++[bL.rows 5 0 [p.cells]]) (J'++L) (.rows 1 0 [[v']]) (J.length+3)
     rw [List.getElem?_append_left hjl,h1,←hb] at this
     simpa using this
    have hsetL:∀L x,(H++bL.rows 5 0 [p.cells]::.rows 1 0 [[v']]::(J'++L)).set b x=H++bL.rows 5 0 [p.cells]::.rows 1 0 [[v']]::(J'.set (J.length+3) x++L):=fun L x=>by
     have:=pA (H++[bL.rows 5 0 [p.cells]]) (J'++L) (.rows 1 0 [[v']]) x (J.length+3)
     rw [←hb,List.set_append_left _ _ hjl] at this
     simpa using this
    have hget2:∀v,(H++bL.rows 5 0 [p.cells]::.rows 1 0 [[v]]::J2)[b]?=some BB:=fun v=>by
     have:=jg (H++[bL.rows 5 0 [p.cells]]) J2 (.rows 1 0 [[v]]) (J.length+3)
     rw [hJ2,←hb] at this
     simpa using this
    have hset2:∀v x,(H++bL.rows 5 0 [p.cells]::.rows 1 0 [[v]]::J2).set b x=H++bL.rows 5 0 [p.cells]::.rows 1 0 [[v]]::J2.set (J.length+3) x:=fun v x=>by
     have:=pA (H++[bL.rows 5 0 [p.cells]]) J2 (.rows 1 0 [[v]]) x (J.length+3)
     rw [←hb] at this
     simpa using this
    have hbb:base≤b:=by rw [hb];simp;omega
    refine ⟨H++.rows 5 0 [p.cells]::.rows 1 0 [[v2]]::J2.set (J.length+3) LB,⟨v2,J2.set (J.length+3) LB,by simp,?_,?_,?_,?_,?_,.inr (l5 (P:=Tryz.prog) (e:=72) (xd:=.slice 72) (by simp) (by simp) kK od (x:=.lst [y.cells] true) (ys:=[y.cells]) rfl (by simp) ha)⟩,?_,fun K=>?_⟩
    ·have:=hg2.setL hJ2 (hBr _) (x:=LB)
     simpa using this
    ·rw [List.getElem?_set_self hjl2]
    ·exact hkeep _ _ (by omega) h2 (by intro g rs h;cases h)
    ·exact hkeep _ _ (by omega) h3 (by intro g rs h;cases h)
    ·simp;omega
    ·intro b' g rs hb' hx
     obtain ⟨j,rfl⟩:∃j,b'=(H++[bL.rows 5 0 [p.cells]]).length+1+j:=⟨b'-((H++[bL.rows 5 0 [p.cells]]).length+1),by omega⟩
     rw [jg] at hx
     have h5:=hkeep j _ (by omega) hx (by intro g' rs' h;cases h)
     have:=jg (H++[bL.rows 5 0 [p.cells]]) (J2.set (J.length+3) LB) (.rows 1 0 [[v2]]) j
     rw [h5] at this
     simpa using this
    ·rw [←hb]
     have hv:=hgetL []
     rw [List.append_nil] at hv
     rw [←hLB] at hv
     refine aF.eq (gy hr (hget:=by simpa using hv) hbb rfl (by decide) (by kernel_rfl) (by kernel_rfl) ?_) K
     rw [hLB,hBB]
     have hrow:ax (J'.set (J.length+3) BB++[bL.rows 172 0 [y.cells]]) J'.length 0 172 0=some y.cells:=by simp [ax]
     have hb1:base≤H.length+(J'.length+1+1):=by omega
     have hb2:base≤H.length+1:=by omega
     simp [q6,ao,aD,ah,aq,hgetL,hsetL,ha,hget2,hset2,hg2.cellv,hg2.leafv,hLB,hrow,hb1,hb2]
     rfl
   ·intro v' J' hg' hJ' hv'
    have hXl:(H++bL.rows 5 0 [p.cells]::.rows 1 0 [[v]]::(J++[bL.rows 139 0 [c.cells],.rows 139 0 [c.cells],.rows 1 0 [[.int .i64 (own.length:Int)]]])).length=(H++[bL.rows 5 0 [p.cells]]).length+1+(J.length+3):=by simp;omega
    rw [hXl,fo ((jg _ _ _ _).trans hJ'),pA]
    have hg2:=hg'.setL (x:=.dead) hJ' (by intro g rs h;cases h)
    simp [q1,q6,q20,q21,q22]
    refine ⟨h,au h (by omega),?_⟩
    rw [hsucc]
    exact ⟨v',_,by simpa using hg2,hv',rfl,rfl⟩
  ·have h':i=p.changes.length:=by omega
   subst h'
   rw [List.take_length] at hg
   simp [q1,q6,q20,q21,q22]
   exact ⟨v,J,hg,hv,rfl,rfl⟩
 clear q1 q6
 rintro s H' ⟨q1,q6,v,J,hg,hv,rfl⟩
 have hel':¬(65536:Int)<(dC p).enc.length:=by omega
 simp [q1,q6,e2,an,hel']
 rw [hat];exact ⟨v,J,hg,hv,rfl,rfl⟩
end Go.Proofs.Ev
namespace Go.Proofs.Ev
open Go.Proofs
variable {C:bD}
structure fc (C:bD):Prop extends gQ C where
 pureP:∀f,f∈[139,77,41,176,117,65,83]→C.pure f=true
theorem BT (S:fc C) (p:aA) (hp:p.Good):b8 Tryz.prog C 139 [] [.agg p.cells] (.int .i64 0):=by
 refine aw (S.pureP _ (by decide)) fun H=>aj Tryz.func139 rfl (S.prim _ (by decide)) (by simp) (by kernel_rfl) ?_
 unfold Tryz.f139
 obtain ⟨v,J,_,_,e⟩:=oX S.togQ p hp (base:=H.length) (H:=H++[.rows 5 0 [p.cells]]) (by simp)
 simp [aE,e]
theorem zW (S:fc C) (p:aA) (hp:p.Good):b8 Tryz.prog C 77 [] [.agg p.cells] (.tup [.str (dC p).enc,.int .i64 0]):=by
 refine aw (S.pureP _ (by decide)) fun H=>aj Tryz.func77 rfl (S.prim _ (by decide)) (by simp) (by kernel_rfl) ?_
 unfold Tryz.f77
 obtain ⟨v,J,_,_,e⟩:=oX S.togQ p hp (base:=H.length) (H:=H++[.rows 5 0 [p.cells]]) (by simp)
 simp [aE,e]
 exact bb (by simp) (by simp)
def aA.dig (p:aA):ar:=⟨Ay (dC p).enc,by simp [Ay,sA],C7 _⟩
theorem yb (S:fc C) (p:aA) (hp:p.Good):b8 Tryz.prog C 41 [] [.agg p.cells] (.tup [.agg p.dig.cells,.int .i64 0]):=by
 refine aw (S.pureP _ (by decide)) fun H=>aj Tryz.func41 rfl (S.prim _ (by decide)) (by simp) (by kernel_rfl) ?_
 unfold Tryz.f41
 obtain ⟨_,hel⟩:=hp.encode
 have e:=(zW S p hp).eq
 have es:=(Hq S.toeJ (dC p).enc (by omega)).eq
 have hd:dig (Ay (dC p).enc)=p.dig.cells:=rfl
 rw [hd] at es
 simp [aE,e,es,ao,aD]
 exact ⟨by decide,by decide,bb (ak (by simp [AV.closed])) (by simp)⟩
end Go.Proofs.Ev
namespace Go.Proofs.Ev
open Go.Proofs
variable {C:bD}
structure aZ where
 i:List aC→List aC
 d:List ar→List ar
structure fg (C:bD) (σ:aZ):Prop extends fc C where
 permI:∀l,(σ.i l).Perm l
 sortI:∀{base:Nat} {H:ae} {b g:Nat} {l:List aC},l.length≤2^40→base≤b→H[b]?=some (.rows 33 g (l.map aC.cells))→∀K:AV→ae→Prop,
  aF Tryz.prog C base (.fn 114 []) [.sl b g 33 0 l.length,.fn 96 []] H K=K (.tup []) (H.set b (.rows 33 g ((σ.i l).map aC.cells)))
 sortI0:∀{base:Nat} {H:ae} (K:AV→ae→Prop),aF Tryz.prog C base (.fn 114 []) [.nils,.fn 96 []] H K=K (.tup []) H
theorem IV (S:fc C) {base b:Nat} {H:ae} {d:ar} (hg:H[b]?=some (.rows 32 0 [d.cells])) (x:aC) (K:AV→ae→Prop) :
 aF Tryz.prog C base (.fn 176 [.ptr b 0 32 0 0]) [.agg x.cells] H K=K (.agg (bi x d).cells) H:=by
 have hb:b<H.length:=(List.getElem?_eq_some_iff.1 hg).1
 have hg2:∀L,ax (H++L) b 0 32 0=some d.cells:=fun L=>by
  simp only [ax];rw [List.getElem?_append_left hb,hg];simp
 refine aF.eq (eH (S.pureP _ (by decide)) (aj Tryz.func176 rfl (S.prim _ (by decide)) (by simp) (by kernel_rfl) ?_)) K
 unfold Tryz.f176
 have eo:=(sM S.tobN x).eq
 have hd:d.cells=dig d.d:=rfl
 have h32:d.d.length=32:=d.h
 have ht:List.take 32 (dig d.d)=dig d.d:=List.take_of_length_le (by simp [dig,h32])
 have hlf:∀y∈dig d.d,y.leaf=true:=by intro y hy;obtain ⟨n,_,rfl⟩:=List.mem_map.1 hy;rfl
 cases hz:bz x.d with
 | false=>simp [aE,an,eo,hz,ao,aD,bi,ak,AV.closed]
 | true =>
  by_cases hn:0≤x.n
  ·have hc:Ev.dig d.d++[AV.int .i64 x.n]=aC.cells ⟨d.d,x.n,d.h,d.b⟩:=rfl
   simp [aE,an,eo,hz,hn,hg2,hd,ht,h32,hlf,hc,ao,aD,bi]
   simp [ak,AV.closed]
  ·simp [aE,an,eo,hz,hn,ao,aD,bi,ak,AV.closed]
end Go.Proofs.Ev
namespace Go.Proofs.Ev
open Go.Proofs
variable {C:bD} {σ:aZ}
def Fj (d:ar) (x:aG):aG:={ x with id:=bi x.id d }
def ss (σ:aZ) (d:ar) (x:aG):aG :=
 let y:=vc d (vG d (vF d (Fj d x)))
 {y with over:=σ.i (x.over.map fun z=>bi z d),overK:=gO x.over }
def vy (σ:aZ) (d:ar) (start:Nat) (X:ae) (x:aG) (row:List AV):Prop :=
 ∃v,row=(ss σ d x).cells.take 171++[v]∧((x.over=[]∧v=.nils)∨(x.over≠[]∧∃b g,v=.sl b g 33 0 (ss σ d x).over.length∧X[b]?=some (.rows 33 g ((ss σ d x).over.map aC.cells))∧start≤b))
theorem vy.mono {d:ar} {start:Nat} {X X':ae} {x:aG} {row:List AV} (h:vy σ d start X x row) (hX:∀(b g:Nat) (rs:List (List AV)),X[b]?=some (bL.rows 33 g rs)→X'[b]?=some (bL.rows 33 g rs)):vy σ d start X' x row:=by
 obtain ⟨v,h1,h2⟩:=h
 refine ⟨v,h1,?_⟩
 rcases h2 with h2 | ⟨h2,b,g,h3,h4,h5⟩
 ·exact .inl h2
 ·exact .inr ⟨h2,b,g,h3,hX _ _ _ h4,h5⟩
def CS (bl g n bd i:Nat) (s:Sl):Prop:=s 4=.sl bl g 172 0 n∧s 8=.fn 176 [.ptr bd 0 32 0 0]∧s 32=.sl bl g 172 0 n∧s 33=.int .i64 n∧s 34=.int .i64 i
def CI (X:ae) (bl g n bd i:Nat) (s:Sl):Prop:=CS bl g n bd i s∧s 9=.int .i64 i∧s 10=.ptr X.length 0 172 0 0
structure CX (σ:aZ) (d:ar) (start bl g bd:Nat) (L:List aG) (i:Nat) (X:ae):Prop where
 rows:∃rows,X[bl]?=some (.rows 172 g rows)∧rows.length=L.length∧(∀j x,j<i→L[j]?=some x→∃row,rows[j]?=some row∧vy σ d start X x row)∧(∀j x,i≤j→L[j]?=some x→rows[j]?=some x.cells)
 dig:X[bd]?=some (.rows 32 0 [d.cells])
 low:start≤bl∧start≤X.length
theorem FI (d:ar) (x:aG):(vc d (vG d (vF d (Fj d x)))).over=x.over∧(vc d (vG d (vF d (Fj d x)))).overK=x.overK:=by
 unfold vc vG vF Fj
 repeat' split
 all_goals exact ⟨rfl,rfl⟩
set_option maxRecDepth 100000 in
set_option maxHeartbeats 8000000 in
theorem vf (S:fg C σ) (p:aA) (hp:p.Good) (H:ae):dU Tryz.prog C H.length 117 [.agg p.cells] H fun r H'=>∃X bl g bd,H'=X∧r=.tup [.sl bl g 172 0 (aT p).length,.int .i64 0]∧CX σ p.dig H.length bl g bd (aT p) (aT p).length X:=by
 refine aj Tryz.func117 rfl (S.prim _ (by decide)) (by simp) (by kernel_rfl) ?_
 unfold Tryz.f117
 obtain ⟨v,J,hg,hvs,ee⟩:=oX S.togQ p hp (base:=H.length) (H:=H++[.rows 5 0 [p.cells]]) (by simp)
 have ei:=(yb S.tofc p hp).eq
 obtain ⟨L,hL⟩:∃L,L=aT p:=⟨_,rfl⟩
 have hn:=hp.n
 have hover:=hp.fit.atomOver
 rw [←hL] at hg hn hover ⊢
 have hLne:L≠[]:=by
  obtain ⟨_,hc0,_⟩:=hp.head
  rw [hL,hp.atoms]
  cases hc:p.changes with
  | nil=>rw [hc] at hc0;exact absurd rfl hc0
  | cons c l =>
   have h1:=(un c 0 (hp.good (c:=c) (by rw [hc];simp)).lnn).2
   have h2:=kM l ([]++cH c 0)
   intro h0
   rw [co,List.length_nil] at h0
   rw [h0] at h2
   exact h1 (List.length_eq_zero_iff.1 (by simpa using h2))
 obtain ⟨d,hd⟩:∃d,d=p.dig:=⟨_,rfl⟩
 rw [←hd] at ei ⊢
 simp only [List.append_assoc,List.cons_append,List.nil_append,List.length_append,List.length_cons,List.length_nil,Nat.zero_add] at hg ee
 refine cut (fun s H'=>s 1=.ptr H.length 0 5 0 0∧H'=H++[.rows 5 0 [p.cells]]) ?_ ?_
 ·simp [aE]
 rintro s H' ⟨q1,rfl⟩
 refine cut (fun s H'=>s 1=.ptr H.length 0 5 0 0∧s 4=v∧s 6=.int .i64 0∧H'=H++.rows 5 0 [p.cells]::.rows 5 0 [p.cells]::.rows 1 0 [[v]]::J) ?_ ?_
 ·simp [q1,ee]
 rintro s H' ⟨q1,q4,q6,rfl⟩
 refine cut (fun s H'=>s 1=.ptr H.length 0 5 0 0∧s 4=v∧H'=H++.rows 5 0 [p.cells]::.rows 5 0 [p.cells]::.rows 1 0 [[v]]::J) ?_ ?_
 ·simp [q1,q4,q6]
 clear q1 q4 q6
 rintro s H' ⟨q1,q4,rfl⟩
 refine cut (fun s H'=>s 4=v∧s 7=.ptr (H.length+(J.length+3)) 0 32 0 0∧s 6=.int .i64 0∧H'=H++.rows 5 0 [p.cells]::.rows 5 0 [p.cells]::.rows 1 0 [[v]]::(J++[.rows 32 0 [d.cells]])) ?_ ?_
 ·simp [q1,q4,ei,ao,aD]
  decide
 rintro s H' ⟨q4,q7,q6,rfl⟩
 obtain ⟨b,g,rfl,hb⟩:∃b g,v=.sl (H.length+1+2+b) g 172 0 L.length∧J[b]?=some (.rows 172 g (L.map aG.cells)):=by
  rcases hg with ⟨h0,_⟩ | h0 | ⟨b,g,h0,hb⟩
  ·exact absurd (by simpa using h0) hLne
  ·rw [h0] at hvs
   rcases hvs with h | ⟨_,_,_,h⟩<;>cases h
  ·exact ⟨b,g,by rw [h0,List.length_map],hb⟩
 obtain ⟨bl,hbl⟩:∃bl,bl=H.length+1+2+b:=⟨_,rfl⟩
 obtain ⟨bd,hbd⟩:∃bd,bd=H.length+(J.length+3):=⟨_,rfl⟩
 rw [←hbl] at q4
 rw [←hbd] at q7
 have hbJ:b<J.length:=(List.getElem?_eq_some_iff.1 hb).1
 have hX0:CX σ d H.length bl g bd L 0 (H++.rows 5 0 [p.cells]::.rows 5 0 [p.cells]::.rows 1 0 [[.sl (H.length+1+2+b) g 172 0 L.length]]::(J++[.rows 32 0 [d.cells]])):=by
  refine ⟨⟨L.map aG.cells,?_,by simp,fun j x hj=>by omega,fun j x _ hx=>by simp [hx]⟩,?_,by omega,by simp⟩
  ·rw [hbl,show H.length+1+2+b=H.length+(b+3) by omega,bq]
   simp only [List.getElem?_cons_succ]
   rw [List.getElem?_append_left hbJ];exact hb
  ·rw [hbd,bq];simp
 obtain ⟨X0,hX0e⟩:∃X0,X0=(H++.rows 5 0 [p.cells]::.rows 5 0 [p.cells]::.rows 1 0 [[.sl (H.length+1+2+b) g 172 0 L.length]]::(J++[.rows 32 0 [d.cells]])):=⟨_,rfl⟩
 rw [←hX0e] at hX0 ⊢
 refine cut (fun s H'=>s 4=.sl bl g 172 0 L.length∧s 7=.ptr bd 0 32 0 0∧H'=X0) ?_ ?_
 ·simp [q4,q6,q7]
 clear q4 q6 q7
 rintro s X ⟨q4,q7,rfl⟩
 refine cut (fun s H'=>s 4=.sl bl g 172 0 L.length∧s 8=.fn 176 [.ptr bd 0 32 0 0]∧H'=X) ?_ ?_
 ·simp [q4,q7]
 clear q4 q7
 rintro s X ⟨q4,q8,rfl⟩
 clear hX0e
 refine cut (fun s X=>s 4=.sl bl g 172 0 L.length∧CX σ d H.length bl g bd L L.length X) ?_ ?_
 rotate_left
 ·rintro s X ⟨q4,hX⟩
  simp [q4]
  exact ⟨bl,g,⟨rfl,rfl⟩,bd,hX⟩
 simp [q4,q8]
 refine ay L.length (fun i s X=>CS bl g L.length bd i s∧CX σ d H.length bl g bd L i X) ?_ ?_
 ·exact ⟨⟨q4,q8,rfl,rfl,rfl⟩,hX0⟩
 clear q4 q8 hX0
 rintro i s X ⟨⟨q4,q8,q32,q33,q34⟩,hX⟩ hi
 by_cases h:i<L.length
 rotate_left
 ·have h':i=L.length:=by omega
  subst h'
  simp [q4,q8,q32,q33,q34]
  exact hX
 refine cut (fun s X'=>s 35=.bool true∧CS bl g L.length bd i s∧X'=X) ?_ ?_
 ·simp [q4,q8,q32,q33,q34,h,CS]
 clear q4 q8 q32 q33 q34
 rintro s X ⟨q35,⟨q4,q8,q32,q33,q34⟩,rfl⟩
 refine cut (fun s X'=>CS bl g L.length bd i s∧X'=X) ?_ ?_
 ·simp [q35,q4,q8,q32,q33,q34,CS]
 clear q35 q4 q8 q32 q33 q34
 rintro s X ⟨⟨q4,q8,q32,q33,q34⟩,rfl⟩
 refine cut (fun s X'=>CS bl g L.length bd i s∧CX σ d H.length bl g bd L (i+1) X') ?_ ?_
 rotate_left
 ·rintro s X ⟨⟨q4,q8,q32,q33,q34⟩,hX⟩
  simp [q4,q8,q32,q33,q34,CS,au h (by omega),h]
  exact hX
 rw [fI]
 obtain ⟨x,hx⟩:∃x,L[i]?=some x:=⟨_,List.getElem?_eq_getElem h⟩
 have hxm:x∈L:=List.mem_of_getElem? hx
 have hxo:=hover x hxm
 obtain ⟨⟨rows,hr1,hr2,hr3,hr4⟩,hdg,hlow,hlow2⟩:=hX
 have hri:=hr4 i x (Nat.le_refl _) hx
 have hblX:bl<X.length:=(List.getElem?_eq_some_iff.1 hr1).1
 have hbdX:bd<X.length:=(List.getElem?_eq_some_iff.1 hdg).1
 have fe:∀(M:ae) (z:aC) (K:AV→ae→Prop),aF Tryz.prog C H.length (.fn 176 [.ptr bd 0 32 0 0]) [.agg z.cells] (X++M) K=K (.agg (bi z d).cells) (X++M):=fun M z K=>IV S.tofc (by rw [List.getElem?_append_left hbdX];exact hdg) z K
 have hbr:ax X bl g 172 i=some x.cells:=by simp [ax,hr1,hri]
 have kp:∀(y:aG) (F:Code),True:=fun _ _=>trivial
 refine cut (fun s X'=>CI X bl g L.length bd i s∧X'=X++[.rows 172 0 [x.cells]]) ?_ ?_
 ·simp [q4,q8,q32,q33,q34,h,hbr,CI,CS,ao,aD,hlow2]
 clear q4 q8 q32 q33 q34
 rintro s X' ⟨⟨⟨q4,q8,q32,q33,q34⟩,q9,q10⟩,rfl⟩
 refine cut (fun s X'=>CI X bl g L.length bd i s∧X'=X++[.rows 172 0 [(Fj d x).cells]]) ?_ ?_
 ·simp [q4,q8,q32,q33,q34,q9,q10,fe,CI,CS,ao,aD,hlow2,Fj]
 clear q4 q8 q32 q33 q34 q9 q10
 obtain ⟨y1,hy1⟩:∃y1,y1=Fj d x:=⟨_,rfl⟩
 rw [←hy1]
 rintro s X' ⟨⟨⟨q4,q8,q32,q33,q34⟩,q9,q10⟩,rfl⟩
 refine cut (fun s X'=>CI X bl g L.length bd i s∧X'=X++[.rows 172 0 [(vF d y1).cells]]) ?_ ?_
 ·by_cases hk:y1.kind=7
  ·simp [q4,q8,q32,q33,q34,q9,q10,fe,CI,CS,ao,aD,hlow2,vF,hk]
  ·simp [q4,q8,q32,q33,q34,q9,q10,fe,CI,CS,ao,aD,hlow2,vF,hk]
 clear q4 q8 q32 q33 q34 q9 q10
 obtain ⟨y2,hy2⟩:∃y2,y2=vF d y1:=⟨_,rfl⟩
 rw [←hy2]
 rintro s X' ⟨⟨⟨q4,q8,q32,q33,q34⟩,q9,q10⟩,rfl⟩
 refine cut (fun s X'=>CI X bl g L.length bd i s∧X'=X++[.rows 172 0 [(vG d y2).cells]]) ?_ ?_
 ·by_cases hk:y2.kind=2
  ·simp [q4,q8,q32,q33,q34,q9,q10,fe,CI,CS,ao,aD,hlow2,vG,hk]
  ·simp [q4,q8,q32,q33,q34,q9,q10,fe,CI,CS,ao,aD,hlow2,vG,hk]
 clear q4 q8 q32 q33 q34 q9 q10
 obtain ⟨y3,hy3⟩:∃y3,y3=vG d y2:=⟨_,rfl⟩
 rw [←hy3]
 rintro s X' ⟨⟨⟨q4,q8,q32,q33,q34⟩,q9,q10⟩,rfl⟩
 refine cut (fun s X'=>CI X bl g L.length bd i s∧X'=X++[.rows 172 0 [(vc d y3).cells]]) ?_ ?_
 ·by_cases hk:y3.kind=6
  ·simp [q4,q8,q32,q33,q34,q9,q10,fe,CI,CS,ao,aD,hlow2,vc,hk]
   rw [aL (h:=by kernel_rfl)]
   simp [q4,q8,q32,q33,q34,q9,q10,ao,aD,hlow2]
   rw [aL (h:=by kernel_rfl)]
   simp [q4,q8,q32,q33,q34,q9,q10]
  ·simp [q4,q8,q32,q33,q34,q9,q10,fe,CI,CS,ao,aD,hlow2,vc,hk]
 clear q4 q8 q32 q33 q34 q9 q10
 obtain ⟨y,hy⟩:∃y,y=vc d y3:=⟨_,rfl⟩
 rw [←hy]
 rintro s X' ⟨⟨⟨q4,q8,q32,q33,q34⟩,q9,q10⟩,rfl⟩
 obtain ⟨hyo,hyk⟩:=FI d x
 rw [←hy1,←hy2,←hy3,←hy] at hyo hyk
 refine cut (fun s X'=>CI X bl g L.length bd i s∧s 11=.nils∧X'=X++[.rows 172 0 [y.cells]]) ?_ ?_
 ·simp [q4,q8,q32,q33,q34,q9,q10,CI,CS]
 clear q4 q8 q32 q33 q34 q9 q10
 rintro s X' ⟨⟨⟨q4,q8,q32,q33,q34⟩,q9,q10⟩,q11,rfl⟩
 obtain ⟨ov,hov⟩:∃ov,ov=x.over.map fun z=>bi z d:=⟨_,rfl⟩
 have hovl:ov.length=x.over.length:=by rw [hov];simp
 refine cut (fun s X'=>CI X bl g L.length bd i s∧∃v J,s 11=v∧aQ (X.length+1) 33 J v (ov.map aC.cells)∧(x.over.length=0→v=.nils)∧(v=.nils∨∃b g l,v=.sl b g 33 0 l)∧X'=X++.rows 172 0 [y.cells]::J) ?_ ?_
 ·have hyl:y.over.length=x.over.length:=by rw [hyo]
  simp [q4,q8,q32,q33,q34,q9,q10,q11]
  refine ay x.over.length (fun j s X'=>CI X bl g L.length bd i s∧s 74=am y.overK (y.over.map aC.cells)∧s 75=.int .i64 x.over.length∧s 76=.int .i64 j∧
   ∃v J,s 11=v∧aQ (X.length+1) 33 J v ((ov.take j).map aC.cells)∧(j=0→v=.nils)∧(v=.nils∨∃b g l,v=.sl b g 33 0 l)∧X'=X++.rows 172 0 [y.cells]::J) ?_ ?_
  ·refine ⟨⟨⟨q4,q8,q32,q33,q34⟩,q9,q10⟩,rfl,by simp [hyl],rfl,.nils,[],q11,.nils,fun _=>rfl,.inl rfl,rfl⟩
  clear q4 q8 q32 q33 q34 q9 q10 q11
  rintro j s X' ⟨⟨⟨q4,q8,q32,q33,q34⟩,q9,q10⟩,q74,q75,q76,v,J,q11,hg,hv0,hv,rfl⟩ hj
  by_cases hjl:j<x.over.length
  ·obtain ⟨z,hz⟩:∃z,x.over[j]?=some z:=⟨_,List.getElem?_eq_getElem hjl⟩
   have hyz:y.over[j]?=some z:=by rw [hyo];exact hz
   have hojz:ov[j]?=some (bi z d):=by rw [hov,List.getElem?_map,hz];rfl
   obtain ⟨v2,J2,ha,hg2,_⟩:=aQ.appendP (P:=Tryz.prog) (base:=H.length) (Z:=X++[.rows 172 0 [y.cells]]) (J:=J++[.rows 33 0 [z.cells]]) (n:=X.length+1) (ts:=#[48,48]) (e:=27) (xd:=.slice 27) (rows:=(ov.take j).map aC.cells) (x:=.lst [(bi z d).cells] true) (ys:=[(bi z d).cells]) (v:=v)
    (by simp) (by simp) kJ Do (by simp) (by decide) (by simp) (by simp;omega) (hg.app _) (fun r hr=>by obtain ⟨y,_,rfl⟩:=List.mem_map.1 hr;simp) rfl (by simp) (by simp;omega)
   have hv2:=l5 (P:=Tryz.prog) (e:=27) (xd:=.slice 27) (by simp) (by simp) kJ Do (x:=.lst [(bi z d).cells] true) (ys:=[(bi z d).cells]) rfl (by simp) ha
   simp only [List.append_assoc,List.cons_append,List.nil_append] at ha
   have fz:=fun K=>fe (.rows 172 0 [y.cells]::(J++[.rows 33 0 [z.cells]])) z K
   have ht:(ov.take (j+1)).map aC.cells=(ov.take j).map aC.cells++[(bi z d).cells]:=by rw [List.take_add_one,hojz,List.map_append];rfl
   have hrow:(y.over.map aC.cells)[j]?=some z.cells:=by rw [List.getElem?_map,hyz];rfl
   have hjy:j<y.over.length:=by rw [hyo];exact hjl
   have hb2:H.length≤X.length+(J.length+1):=by omega
   have hzz:y.over[j]=z:=by rw [List.getElem?_eq_getElem hjy] at hyz;exact Option.some.inj hyz
   simp [-List.getElem?_map,q4,q8,q32,q33,q34,q9,q10,q74,q75,q76,q11,hjl,hjy,hrow,hzz,ao,aD,fz,ah,aq,ha,au hjl (by omega),CI,CS,hb2]
   exact ⟨by rw [←List.map_take,ht];exact hg2,.inr hv2⟩
  ·have h':j=x.over.length:=by omega
   subst h'
   rw [←hovl,List.take_length] at hg
   simp [q4,q8,q32,q33,q34,q9,q10,q74,q75,q76,CI,CS]
   exact ⟨J,by rw [q11];exact hg,fun h=>by rw [q11];exact hv0 (by rw [h];rfl),by rw [q11];exact hv,rfl⟩
 clear q4 q8 q32 q33 q34 q9 q10 q11
 rintro s X' ⟨⟨⟨q4,q8,q32,q33,q34⟩,q9,q10⟩,v,J,q11,hg,hv0,hv,rfl⟩
 obtain ⟨so,hso⟩:∃so,so=σ.i ov:=⟨_,rfl⟩
 have hsol:so.length=ov.length:=by rw [hso];exact (S.permI ov).length_eq
 refine cut (fun s X'=>CI X bl g L.length bd i s∧∃J,s 11=v∧((x.over=[]∧v=.nils)∨(x.over≠[]∧∃b g,v=.sl (X.length+1+b) g 33 0 so.length∧J[b]?=some (.rows 33 g (so.map aC.cells))))∧X'=X++.rows 172 0 [y.cells]::J) ?_ ?_
 ·rcases hv with hv | ⟨b1,g1,l1,hv⟩
  ·have hov0:ov=[]:=by
    rcases hg with ⟨h0,_⟩ | h0 | ⟨b,g,h0,_⟩
    ·simpa using h0
    ·rw [hv] at h0;cases h0
    ·rw [hv] at h0;cases h0
   have hx0:x.over=[]:=List.length_eq_zero_iff.1 (by rw [←hovl,hov0];rfl)
   have es:=fun H' K=>S.sortI0 (base:=H.length) (H:=H') K
   subst hv
   simp [q4,q8,q32,q33,q34,q9,q10,q11,es,CI,CS,hx0]
  ·obtain ⟨b2,g2,hv2,hb2⟩:∃b2 g2,v=.sl (X.length+1+b2) g2 33 0 ov.length∧J[b2]?=some (.rows 33 g2 (ov.map aC.cells)):=by
    rcases hg with ⟨_,h0⟩ | h0 | ⟨b,g,h0,hb⟩
    ·rw [hv] at h0;cases h0
    ·rw [hv] at h0;cases h0
    ·exact ⟨b,g,by rw [h0,List.length_map],hb⟩
   have hget:(X++bL.rows 172 0 [y.cells]::J)[X.length+1+b2]?=some (.rows 33 g2 (ov.map aC.cells)):=by rw [jg];exact hb2
   have es:=fun K=>S.sortI (base:=H.length) (b:=X.length+1+b2) (by omega) (by omega) hget K
   rw [pA,←hso] at es
   have hbJ2:b2<J.length:=(List.getElem?_eq_some_iff.1 hb2).1
   have hx0:x.over≠[]:=fun h0=>by have:=hv0 (by rw [h0];rfl);rw [hv] at this;cases this
   rw [hv2] at q11
   simp [q4,q8,q32,q33,q34,q9,q10,q11,es,CI,CS,hx0]
   exact ⟨hv2.symm,b2,g2,by rw [hv2,hsol],by simp [hbJ2]⟩
 clear q4 q8 q32 q33 q34 q9 q10 q11
 rintro s X' ⟨⟨⟨q4,q8,q32,q33,q34⟩,q9,q10⟩,J1,q11,hv1,rfl⟩
 have hvl:v.leaf=true:=by rcases hv with h | ⟨_,_,_,h⟩<;>rw [h]<;>rfl
 have hvc:v.cells=[v]:=by rcases hv with h | ⟨_,_,_,h⟩<;>rw [h]<;>rfl
 obtain ⟨row,hrow⟩:∃row,row=y.cells.take 171++[v]:=⟨_,rfl⟩
 have hrl:row.length=172:=by rw [hrow];simp
 have hrt:row.take 172=row:=List.take_of_length_le (by omega)
 have hrd:row.drop 172=[]:=List.drop_of_length_le (by omega)
 have hra:∀z∈row,z.leaf=true:=by
  intro z hz
  rw [hrow] at hz
  rcases List.mem_append.1 hz with hz | hz
  ·exact List.all_eq_true.1 y.leafs z (List.mem_of_mem_take hz)
  ·rw [List.mem_singleton.1 hz];exact hvl
 refine cut (fun s X'=>CI X bl g L.length bd i s∧X'=X++.rows 172 0 [row]::J1) ?_ ?_
 ·simp [q4,q8,q32,q33,q34,q9,q10,q11,CI,CS,ao,aD,hlow2,hvl,hvc,hrow]
 clear q4 q8 q32 q33 q34 q9 q10 q11
 rintro s X' ⟨⟨⟨q4,q8,q32,q33,q34⟩,q9,q10⟩,rfl⟩
 have hgetA:∀M:ae,(X++M)[bl]?=some (.rows 172 g rows):=fun M=>by rw [List.getElem?_append_left hblX];exact hr1
 have hsetA:∀(M:ae) (B:bL),(X++M).set bl B=X.set bl B++M:=fun M B=>List.set_append_left _ _ hblX
 have hir:i<rows.length:=by omega
 have hrx:rows[i]=x.cells:=by rw [List.getElem?_eq_getElem hir] at hri;exact Option.some.inj hri
 simp [q4,q8,q32,q33,q34,q9,q10,CS,ao,hlow,hgetA,hsetA,h,hir,hrx,hrl,hrt,hrd]
 have hsl:(X.set bl (.rows 172 g (rows.set i row))).length=X.length:=by simp
 have hmono:∀(b g':Nat) (rs:List (List AV)),X[b]?=some (bL.rows 33 g' rs)→(X.set bl (.rows 172 g (rows.set i row))++bL.rows 172 0 [row]::J1)[b]?=some (bL.rows 33 g' rs):=by
  intro b g' rs hb
  have hbX:=(List.getElem?_eq_some_iff.1 hb).1
  rw [List.getElem?_append_left (by omega),List.getElem?_set_ne]
  ·exact hb
  ·rintro rfl
   rw [hr1] at hb
   cases hb
 have hyx:vc d (vG d (vF d (Fj d x)))=y:=by rw [hy,hy3,hy2,hy1]
 have hap:ss σ d x={ y with over:=so,overK:=gO x.over }:=by unfold ss;rw [hyx,hso,hov]
 refine ⟨hra,⟨⟨rows.set i row,?_,by simp [hr2],?_,?_⟩,?_,⟨hlow,by simp;omega⟩⟩⟩
 ·rw [List.getElem?_append_left (by omega),List.getElem?_set_self hblX]
 ·intro j x' hj hx'
  by_cases hji:j=i
  ·subst hji
   rw [hx] at hx'
   cases hx'
   refine ⟨row,by rw [List.getElem?_set_self hir],v,?_,?_⟩
   ·rw [hrow,hap,aG.tk171,aG.tk171]
   ·rcases hv1 with hv1 | ⟨h1,b',g',h2,h3⟩
    ·exact .inl hv1
    ·refine .inr ⟨h1,X.length+1+b',g',?_,?_,by omega⟩
     ·rw [hap];exact h2
     ·rw [hap]
      have:=jg (X.set bl (.rows 172 g (rows.set j row))) J1 (.rows 172 0 [row]) b'
      rw [hsl,h3] at this
      exact this
  ·obtain ⟨row',h1,h2⟩:=hr3 j x' (by omega) hx'
   exact ⟨row',by rw [List.getElem?_set_ne (Ne.symm hji)];exact h1,h2.mono hmono⟩
 ·intro j x' hj hx'
  rw [List.getElem?_set_ne (by omega)]
  exact hr4 j x' (by omega) hx'
 ·rw [List.getElem?_append_left (by omega),List.getElem?_set_ne]
  ·exact hdg
  ·rintro rfl
   rw [hr1] at hdg
   cases hdg
theorem zj {H:ae} {k e:Nat} {a b c:List AV} (ha:AV.closeds a=true) (hb:b.mapM (aI H k e)=some c):(a++b).mapM (aI H k e)=some (a++c):=by
 rw [List.mapM_append,dq ha,hb];rfl
theorem xo {n:Nat}:∀{l:List AV},AV.closeds l=true→AV.closeds (l.take n)=true:=by
 induction n with
 | zero=>intro l _;rfl
 | succ n ih =>
  intro l h
  cases l with
  | nil=>rfl
  | cons x l =>
   simp only [AV.closeds,Bool.and_eq_true] at h
   rw [List.take_succ_cons]
   simp only [AV.closeds,Bool.and_eq_true]
   exact ⟨h.1,ih h.2⟩
theorem vy.freeze {d:ar} {start:Nat} {X:ae} {x:aG} {row:List AV} (h:vy σ d start X x row) (hp:∀l,(σ.i l).Perm l):row.mapM (aI X start 1)=some (ss σ d x).cells:=by
 obtain ⟨v,rfl,h⟩:=h
 have hc:=xo (n:=171) (aG.closed (ss σ d x))
 have hcl:AV.closedss ((ss σ d x).over.map aC.cells)=true:=aH aC.closed _
 have hvv:aI X start 1 v=some (am (ss σ d x).overK ((ss σ d x).over.map aC.cells)):=by
  rcases h with ⟨h1,rfl⟩ | ⟨h1,b,g,rfl,h2,h3⟩
  ·have h0:(ss σ d x).over=[]:=by
    show σ.i (x.over.map fun z=>bi z d)=[]
    rw [h1];exact (hp []).eq_nil
   have hk:(ss σ d x).overK=.nil:=by show gO x.over=_;rw [h1];rfl
   rw [h0,hk];rfl
  ·have hk:(ss σ d x).overK=.loose:=by
    show gO x.over=_
    unfold gO
    cases hx:x.over with
    | nil=>exact absurd hx h1
    | cons _ _=>rfl
   have:=dW (d:=0) h2 h3 hcl
   rw [List.length_map] at this
   rw [hk,this]
   cases ((ss σ d x).over.map aC.cells)<;>rfl
 have:=zj (H:=X) (k:=start) (e:=1) (b:=[v]) (c:=[am (ss σ d x).overK ((ss σ d x).over.map aC.cells)]) hc (by simp [hvv])
 rw [this,aG.overU]
theorem CX.freeze {d:ar} {start bl g bd:Nat} {L:List aG} {X:ae} (h:CX σ d start bl g bd L L.length X) (hp:∀l,(σ.i l).Perm l):aI X start 2 (.sl bl g 172 0 L.length)=some (.lst ((L.map (ss σ d)).map aG.cells) false):=by
 obtain ⟨⟨rows,h1,h2,h3,_⟩,_,hlow,_⟩:=h
 have:=pb (d:=1) (qs:=(L.map (ss σ d)).map aG.cells) h1 hlow (xI (by simp [h2]) fun j hj hj'=>by
  have hjL:j<L.length:=by omega
  obtain ⟨row,hr,hR⟩:=h3 j L[j] hjL (List.getElem?_eq_getElem hjL)
  rw [List.getElem?_eq_getElem hj] at hr
  rw [Option.some.inj hr,hR.freeze hp]
  simp)
 rw [h2] at this
 exact this
def bK (σ:aZ) (p:aA):List aG:=(aT p).map (ss σ p.dig)
theorem vp (S:fg C σ) (p:aA) (hp:p.Good):b8 Tryz.prog C 117 [] [.agg p.cells] (.tup [.lst ((bK σ p).map aG.cells) false,.int .i64 0]):=by
 refine aw (S.pureP _ (by decide)) fun H=>?_
 refine (vf S p hp H).mono fun r X=>?_
 rintro ⟨X,bl,g,bd,rfl,rfl,hX⟩
 exact bb (hX.freeze S.permI) (by simp)
theorem lM (S:fg C σ) (p:aA) (hp:p.Good):b8 Tryz.prog C 65 [] [.agg p.cells] (.tup [.lst ((bK σ p).map aG.cells) false,.int .i64 0]):=by
 refine aw (S.pureP _ (by decide)) fun H=>aj Tryz.func65 rfl (S.prim _ (by decide)) (by simp) (by kernel_rfl) ?_
 unfold Tryz.f65
 have e:=(vp S p hp).eq
 simp [aE,e]
 exact ak (by simp [AV.closed,AV.closeds,rN,aH aG.closed])
end Go.Proofs.Ev
namespace Go.Proofs.Ev
open Go.Proofs
variable {C:bD} {σ:aZ}
def mG (sz:Nat) (X:ae) (v:AV) (rows:List (List AV)):Prop:=(rows=[]∧v=.nils)∨v=.lst rows true∨∃b g,v=.sl b g sz 0 rows.length∧X[b]?=some (.rows sz g rows)
theorem aQ.abs {n sz:Nat} {Z J:ae} {v:AV} {rows:List (List AV)} (hg:aQ n sz J v rows) (hn:n=Z.length):mG sz (Z++J) v rows:=by
 subst hn
 rcases hg with h | h | ⟨b,g,h,hb⟩
 ·exact .inl h
 ·exact .inr (.inl h)
 ·exact .inr (.inr ⟨_,g,h,by rw [bq];exact hb⟩)
theorem mG.stays {sz sz':Nat} {X X':ae} {v:AV} {rows:List (List AV)} (hg:mG sz X v rows) (hs:fh sz' X X') (hne:sz≠sz'):mG sz X' v rows:=by
 rcases hg with h | h | ⟨b,g,h,hb⟩
 ·exact .inl h
 ·exact .inr (.inl h)
 ·exact .inr (.inr ⟨b,g,h,hs _ _ hb (by intro g' rs h;cases h;exact hne rfl)⟩)
theorem fh.head {sz:Nat} {Z J J':ae} (h:fh sz J J'):fh sz (Z++J) (Z++J'):=by
 intro k blk hk hb
 rcases Nat.lt_or_ge k Z.length with hz | hz
 ·rw [List.getElem?_append_left hz] at hk ⊢;exact hk
 ·rw [List.getElem?_append_right hz] at hk ⊢;exact h _ _ hk hb
theorem fh.at {sz:Nat} {H J J':ae} {a:bL} (h:fh sz J J'):fh sz (H++a::J) (H++a::J'):=by
 have:=h.head (Z:=H++[a])
 simpa using this
theorem mG.at {P:Program} {t e:TypeId} {sz:Nat} (h:P.underlying t=some (.slice e)) (hs:br P e=some sz) {X:ae} {v:AV} {rows:List (List AV)} (hg:mG sz X v rows) {i:Nat} (hi:i<rows.length) (hr:rows[i].length=sz) (k:IntKind) :
 ∃a,aX P t v (.int k (i:Int))=some a∧∀t',i6 P X t' a=fC P t' rows[i]:=by
 rcases hg with ⟨rfl,rfl⟩ | rfl | ⟨b,g,rfl,hb⟩
 ·simp at hi
 ·refine ⟨.eptr rows[i],?_,fun t'=>by simp⟩
  rw [ph h hs];simp [hi,hr]
 ·refine ⟨.ptr b g sz i 0,?_,fun t'=>?_⟩
  ·rw [rQ h hs];simp [hi]
  ·rw [nB,gC hb];simp [hi]
theorem mG.len {P:Program} {t e:TypeId} (h:P.underlying t=some (.slice e)) {sz:Nat} {X H:ae} {v:AV} {rows:List (List AV)} (hg:mG sz X v rows):fQ P H t v.denil=some (.int .i64 rows.length):=by
 rcases hg with ⟨rfl,rfl⟩ | rfl | ⟨b,g,rfl,_⟩
 ·exact iO h H [] true
 ·exact iO h H _ true
 ·exact pl h H _ _ _ _ _
theorem A6 {H:ae} {k d b g sz:Nat} {m z:List (List AV)} (hg:H[b]?=some (.rows sz g (m++z))) (hk:k≤b) (hc:AV.closedss m=true):aI H k (d+1) (.sl b g sz 0 m.length)=some (.lst m false):=by
 have h1:List.take m.length (m++z)=m:=by simp
 simp only [aI,AV.closed,Bool.false_eq_true,if_false,hk,if_true,cg,hg,and_self,Nat.zero_add,List.length_append,Nat.le_add_right,List.drop_zero,h1,Option.bind_some,hc,Option.map_some]
def bJ:List ar→List ar
 | a::b::l=>if a.d=b.d then bJ (b::l) else a::bJ (b::l)
 | l=>l
theorem lu:∀(l:List ar) (d:List Nat),(∃x∈bJ l,x.d=d)↔∃x∈l,x.d=d
 | [],d=>by simp [bJ]
 | [a],d=>by simp [bJ]
 | a::b::l,d=>by
  have ih:=lu (b::l) d
  rw [bJ]
  split
  ·rename_i h
   rw [ih]
   constructor
   ·rintro ⟨x,hx,rfl⟩;exact ⟨x,by simp [List.mem_cons.1 hx],rfl⟩
   ·rintro ⟨x,hx,rfl⟩
    rcases List.mem_cons.1 hx with rfl | hx
    ·exact ⟨b,by simp,h.symm⟩
    ·exact ⟨x,hx,rfl⟩
  ·constructor
   ·rintro ⟨x,hx,rfl⟩
    rcases List.mem_cons.1 hx with rfl | hx
    ·exact ⟨x,by simp,rfl⟩
    ·obtain ⟨y,hy,he⟩:=ih.1 ⟨x,hx,rfl⟩;exact ⟨y,by simp [List.mem_cons.1 hy],he⟩
   ·rintro ⟨x,hx,rfl⟩
    rcases List.mem_cons.1 hx with rfl | hx
    ·exact ⟨x,by simp,rfl⟩
    ·obtain ⟨y,hy,he⟩:=ih.2 ⟨x,hx,rfl⟩;exact ⟨y,by simp [hy],he⟩
theorem qT:∀l:List ar,(bJ l).length≤l.length∧(l≠[]→bJ l≠[])
 | []=>by simp [bJ]
 | [a]=>by simp [bJ]
 | a::b::l=>by
  have ih:=qT (b::l)
  rw [bJ]
  split
  ·exact ⟨by have:=ih.1;simp at this ⊢;omega,fun _=>ih.2 (by simp)⟩
  ·exact ⟨by have:=ih.1;simp at this ⊢;omega,fun _=>by simp⟩
structure jW (C:bD) (σ:aZ):Prop extends fg C σ where
 permD:∀l,(σ.d l).Perm l
 sortD:∀{base:Nat} {H:ae} {b g:Nat} {l:List ar},l.length≤2^40→base≤b→H[b]?=some (.rows 32 g (l.map ar.cells))→∀K:AV→ae→Prop,
  aF Tryz.prog C base (.fn 143 []) [.sl b g 32 0 l.length,.fn 81 []] H K=K (.tup []) (H.set b (.rows 32 g ((σ.d l).map ar.cells)))
 sortD0:∀{base:Nat} {H:ae} (K:AV→ae→Prop),aF Tryz.prog C base (.fn 143 []) [.lst [] true,.fn 81 []] H K=K (.tup []) H
 cloneD:∀{base:Nat} {H:ae} {k:SK} {l:List ar},l.length≤2^20→∀K:AV→ae→Prop,aF Tryz.prog C base (.fn 140 []) [am k (l.map ar.cells)] H K =
  if l=[] then K (.lst [] true) H else K (.sl H.length 0 32 0 l.length) (H++[.rows 32 0 (l.map ar.cells)])
 compD:∀{base:Nat} {H:ae} {b g:Nat} {l:List ar},l.length≤2^40→base≤b→H[b]?=some (.rows 32 g (l.map ar.cells))→∃z,∀K:AV→ae→Prop,
  aF Tryz.prog C base (.fn 144 []) [.sl b g 32 0 l.length] H K=K (.sl b g 32 0 (bJ l).length) (H.set b (.rows 32 g ((bJ l).map ar.cells++z)))
 compD0:∀{base:Nat} {H:ae} (K:AV→ae→Prop),aF Tryz.prog C base (.fn 144 []) [.lst [] true] H K=K (.lst [] true) H
def dr (c:aW):List aC:=(jF c 0).map Prod.fst
theorem EE (c:aW) (b:Nat):(jF c b).map Prod.fst=dr c:=by
 unfold dr jF iz i8
 simp only [List.map_append,List.map_map]
 congr 2
 congr 1
 split<;>rfl
def dR (l:List aC):List ar:=(l.filter fun x=>!bz x.d).map aC.dv
def cM (p:aA):List ar:=p.deps++(p.changes.map fun c=>dR (dr c)).flatten
def dQ (σ:aZ) (p:aA):List ar:=bJ (σ.d (cM p))
theorem zD {l:List aC} {i:Nat} {x:aC} (h:l[i]?=some x):dR (l.take (i+1))=dR (l.take i)++(if bz x.d then [] else [x.dv]):=by
 unfold dR
 rw [List.take_add_one,h]
 cases hz:bz x.d<;>simp [hz]
theorem uA (c:aW) (h:c.over.length≤400):(dr c).length≤404:=by
 have n1:(fH c).length≤1:=by unfold fH;split<;>simp
 have n2:(gK c).length≤1:=by unfold gK;split<;>simp
 have n3:(iz c 0).length≤2:=by unfold iz;split<;>simp
 have n4:(i8 c 0 c.over.length).length≤400:=by simp [i8];omega
 simp [dr,jF];omega
theorem pq (l:List aC):(dR l).length≤l.length:=by unfold dR;rw [List.length_map];exact List.length_filter_le _ _
def Nw (v:AV) (rows:List (List AV)):Prop:=(rows=[]∧v=.lst [] true)∨(rows≠[]∧∃b g l,v=.sl b g 32 0 l)
def AB (p:aA) (H:ae) (l:List ar) (v:AV) (X:ae):Prop:=∃J,aQ (H.length+1) 32 J v (l.map ar.cells)∧Nw v (l.map ar.cells)∧X=H++.rows 5 0 [p.cells]::J
set_option maxRecDepth 100000 in
set_option maxHeartbeats 8000000 in
theorem rn (S:jW C σ) (p:aA) (hp:p.Good):b8 Tryz.prog C 83 [] [.agg p.cells] (am (if cM p=[] then .exact else .loose) ((dQ σ p).map ar.cells)):=by
 refine aw (S.pureP _ (by decide)) fun H=>aj Tryz.func83 rfl (S.prim _ (by decide)) (by simp) (by kernel_rfl) ?_
 unfold Tryz.f83
 have ec:=(BT S.tofc p hp).eq
 have hdl:=hp.head.2.2.2.2
 have hcl:=hp.head.2.2.1
 have ecl:=fun H' K=>S.cloneD (base:=H.length) (H:=H') (k:=p.depsK) (l:=p.deps) (by omega) K
 refine cut (fun s H'=>s 1=.ptr H.length 0 5 0 0∧H'=H++[.rows 5 0 [p.cells]]) ?_ ?_
 ·simp [aE]
 rintro s H' ⟨q1,rfl⟩
 refine cut (fun s H'=>s 1=.ptr H.length 0 5 0 0∧H'=H++[.rows 5 0 [p.cells]]) ?_ ?_
 ·simp [q1,ec]
 clear q1
 rintro s H' ⟨q1,rfl⟩
 refine cut (fun s H'=>s 1=.ptr H.length 0 5 0 0∧AB p H p.deps (s 3) H') ?_ ?_
 ·by_cases hd:p.deps=[]
  ·simp only [hd,List.map_nil,if_true] at ecl
   simp [q1,ecl,hd]
   exact ⟨[],.inr (.inl rfl),.inl ⟨rfl,rfl⟩,rfl⟩
  ·simp [q1,ecl,hd]
   exact ⟨_,.inr (.inr ⟨0,0,by simp,rfl⟩),.inr ⟨by simpa using hd,_,_,_,rfl⟩,rfl⟩
 clear q1
 rintro s X ⟨q1,hN⟩
 have rsz:∀(l:List ar),∀r∈l.map ar.cells,r.length=32:=fun l r hr=>by obtain ⟨y,_,rfl⟩:=List.mem_map.1 hr;simp
 refine cut (fun s X=>AB p H (cM p) (s 3) X∧(cM p).length≤2^20) ?_ ?_
 ·have hb1:ax X H.length 0 5 0=some p.cells:=by obtain ⟨J,_,_,rfl⟩:=hN;simp
  simp [q1,hb1]
  refine ay p.changes.length (fun i s X=>s 1=.ptr H.length 0 5 0 0∧s 15=am p.changesK (p.changes.map aW.cells)∧s 16=.int .i64 p.changes.length∧s 17=.int .i64 i∧
   AB p H (p.deps++((p.changes.take i).map fun c=>dR (dr c)).flatten) (s 3) X∧(p.deps++((p.changes.take i).map fun c=>dR (dr c)).flatten).length≤100+404*i) ?_ ?_
  ·exact ⟨q1,rfl,rfl,rfl,by simpa using hN,by simp;omega⟩
  clear q1 hN hb1
  rintro i s X ⟨q1,q15,q16,q17,hN,hln⟩ hi
  by_cases h:i<p.changes.length
  rotate_left
  ·have h':i=p.changes.length:=by omega
   subst h'
   rw [List.take_length] at hN hln
   simp [q15,q16,q17]
   exact ⟨hN,Nat.le_trans hln (by omega)⟩
  obtain ⟨c,hc⟩:∃c,c=p.changes[i]:=⟨_,rfl⟩
  have hci:p.changes[i]?=some c:=by rw [hc];exact List.getElem?_eq_getElem h
  have hcg:=(hp.change hci).1
  obtain ⟨D,hD⟩:∃D,D=p.deps++((p.changes.take i).map fun c=>dR (dr c)).flatten:=⟨_,rfl⟩
  rw [←hD] at hN hln
  have hDs:p.deps++((p.changes.take (i+1)).map fun c=>dR (dr c)).flatten=D++dR (dr c):=by
   rw [hD,List.take_add_one,hci];simp
  have hRl:=uA c hcg.on
  have hol:=pq (dr c)
  refine cut (fun s X=>s 18=.bool true∧s 1=.ptr H.length 0 5 0 0∧s 15=am p.changesK (p.changes.map aW.cells)∧s 16=.int .i64 p.changes.length∧s 17=.int .i64 i∧AB p H D (s 3) X) ?_ ?_
  ·simp [q1,q15,q16,q17,h,hN]
  clear q1 q15 q16 q17 hN
  rintro s X ⟨q18,q1,q15,q16,q17,hN⟩
  refine cut (fun s X=>s 1=.ptr H.length 0 5 0 0∧s 15=am p.changesK (p.changes.map aW.cells)∧s 16=.int .i64 p.changes.length∧s 17=.int .i64 i∧AB p H D (s 3) X) ?_ ?_
  ·simp [q1,q15,q16,q17,q18,hN]
  clear q1 q15 q16 q17 q18 hN
  rintro s X ⟨q1,q15,q16,q17,hN⟩
  refine cut (fun s X=>s 1=.ptr H.length 0 5 0 0∧s 15=am p.changesK (p.changes.map aW.cells)∧s 16=.int .i64 p.changes.length∧s 17=.int .i64 i∧AB p H (D++dR (dr c)) (s 3) X) ?_ ?_
  rotate_left
  ·clear q1 q15 q16 q17 hN
   rintro s X ⟨q1,q15,q16,q17,hN⟩
   rw [←hDs] at hN
   have hln2:(p.deps++((p.changes.take (i+1)).map fun c=>dR (dr c)).flatten).length≤100+404*(i+1):=by rw [hDs,List.length_append];omega
   have wi:=au h (by omega)
   simp [q1,q15,q16,q17,wi,h]
   exact ⟨by simpa using hN,by simpa using hln2⟩
  rw [fI]
  obtain ⟨v,q3⟩:∃v,s 3=v:=⟨_,rfl⟩
  rw [q3] at hN
  obtain ⟨J,hg,hv,rfl⟩:=hN
  obtain ⟨vr,Jr,hgr,er⟩:=oD S.tode c hcg.on (base:=H.length) (H:=H++.rows 5 0 [p.cells]::(J++[.rows 139 0 [c.cells]])) (by simp)
  have hgrA:=hgr.abs (Z:=(H++.rows 5 0 [p.cells]::(J++[.rows 139 0 [c.cells]]))++[.rows 139 0 [c.cells],.rows 1 0 [[vr]]]) (by simp;omega)
  simp only [List.append_assoc,List.cons_append,List.nil_append] at er hgrA
  obtain ⟨b0,hb0⟩:∃b0,b0=(H++bL.rows 5 0 [p.cells]::(J++[bL.rows 139 0 [c.cells]])).length:=⟨_,rfl⟩
  rw [←hb0] at hgrA
  obtain ⟨R,hR⟩:∃R,R=jF c b0:=⟨_,rfl⟩
  have hRi:R.map Prod.fst=dr c:=by rw [hR];exact EE c b0
  have hRfn:∀x∈R,∃f cs,x.2=AV.fn f cs:=by rw [hR];exact zN
  rw [←hR] at hgrA
  clear hR hgr hb0
  have hRn:R.length=(dr c).length:=by rw [←hRi];simp
  have hlen:=fun HH=>hgrA.len (P:=Tryz.prog) (t:=224) (e:=227) (H:=HH) (by simp)
  rw [List.length_map] at hlen
  refine cut (fun s X=>s 1=.ptr H.length 0 5 0 0∧s 15=am p.changesK (p.changes.map aW.cells)∧s 16=.int .i64 p.changes.length∧s 17=.int .i64 i∧s 3=v∧s 5=.ptr (H.length+(J.length+1)) 0 139 0 0∧X=H++.rows 5 0 [p.cells]::(J++[.rows 139 0 [c.cells]])) ?_ ?_
  ·simp [q1,q15,q16,q17,q3,h,←hc,ao,aD]
  clear q1 q15 q16 q17 q3
  rintro s X ⟨q1,q15,q16,q17,q3,q5,rfl⟩
  simp [q1,q15,q16,q17,q3,q5,er,hlen]
  refine ay R.length (fun j s X=>s 1=.ptr H.length 0 5 0 0∧s 15=am p.changesK (p.changes.map aW.cells)∧s 16=.int .i64 p.changes.length∧s 17=.int .i64 i∧s 22=vr∧s 23=.int .i64 R.length∧s 24=.int .i64 j∧AB p H (D++dR ((dr c).take j)) (s 3) X∧mG 34 X vr (R.map ii)) ?_ ?_
  ·refine ⟨q1,q15,q16,q17,rfl,rfl,rfl,⟨_,by simpa [dR,q3] using hg.app (bL.rows 139 0 [c.cells]::.rows 139 0 [c.cells]::.rows 1 0 [[vr]]::Jr),by simpa [dR,q3] using hv,by simp⟩,hgrA⟩
  clear q1 q15 q16 q17 q3 q5 hgrA er hg hv
  rintro j s X ⟨q1,q15,q16,q17,q22,q23,q24,hN,hgrA⟩ hj
  by_cases hjl:j<R.length
  rotate_left
  ·have h':j=R.length:=by omega
   subst h'
   rw [hRn,List.take_length] at hN
   simp [q1,q15,q16,q17,q22,q23,q24]
   exact hN
  obtain ⟨x,hx⟩:∃x,x=R[j]:=⟨_,rfl⟩
  have hxm:x∈R:=hx▸List.getElem_mem hjl
  obtain ⟨f,cs,hfn⟩:=hRfn x hxm
  have hxi:(dr c)[j]?=some x.1:=by rw [←hRi,List.getElem?_map,List.getElem?_eq_getElem hjl,←hx];rfl
  obtain ⟨a,ha,hl⟩:=hgrA.at (P:=Tryz.prog) (t:=224) (e:=227) (by simp) HU (i:=j) (by simpa using hjl) (by simp) .i64
  simp only [List.getElem_map,←hx] at hl
  have r4:∀y∈x.1.cells++[x.2],y.leaf=true:=by
   intro y hy
   rcases List.mem_append.1 hy with hy | hy
   ·exact List.all_eq_true.1 x.1.leafs y hy
   ·rw [List.mem_singleton.1 hy,hfn];rfl
  have eo:=(sM S.tobN x.1).eq
  unfold ii at hl
  obtain ⟨v2,q3⟩:∃v2,s 3=v2:=⟨_,rfl⟩
  rw [q3] at hN
  obtain ⟨J2,hg,hv,rfl⟩:=hN
  have hsu:=zD hxi
  have hb1:H.length≤H.length+(J2.length+1):=by omega
  cases hz:bz x.1.d with
  | true =>
   rw [hz,if_pos rfl,List.append_nil] at hsu
   simp [q1,q15,q16,q17,q22,q23,q24,q3,hjl,ha,hl,ao,aD,r4,eo,hz,au hjl (by omega)]
   rw [hsu]
   exact ⟨⟨_,hg.app _,hv,rfl⟩,hgrA.stays (fh.app (sz:=32) J2 _).at (by decide)⟩
  | false =>
   rw [hz,if_neg (by decide)] at hsu
   have hDl:(D++dR ((dr c).take j)).length≤2^20:=by
    have:=pq ((dr c).take j)
    simp only [List.length_append,List.length_take] at this ⊢
    omega
   obtain ⟨v3,J3,hap,hg3,hst⟩:=aQ.appendP (P:=Tryz.prog) (base:=H.length) (Z:=H++[.rows 5 0 [p.cells]]) (J:=J2++[.rows 34 0 [x.1.cells++[x.2]]]) (n:=H.length+1) (ts:=#[34,34]) (e:=25) (xd:=.slice 25) (rows:=(D++dR ((dr c).take j)).map ar.cells) (x:=.lst [x.1.dv.cells] true) (ys:=[x.1.dv.cells]) (v:=v2)
    (by simp) (by simp) mD AL (by simp [show aJ.length=32 by decide]) (by decide) (by simp) (by simp) (hg.app _) (rsz _) rfl (by simp) (by simp at hDl ⊢;omega)
   have hv3:=l5 (P:=Tryz.prog) (e:=25) (xd:=.slice 25) (by simp) (by simp) mD AL (x:=.lst [x.1.dv.cells] true) (ys:=[x.1.dv.cells]) rfl (by simp) hap
   simp only [List.append_assoc,List.cons_append,List.nil_append] at hap
   have hdv:x.1.dv.cells=dig x.1.d:=rfl
   rw [hdv] at hap hg3
   have h32:x.1.d.length=32:=x.1.h
   have ht32:List.take 32 (x.1.cells++[x.2])=dig x.1.d:=by rw [List.take_append_of_le_length (by simp),x.1.dig]
   have hd0:aJ.length=32:=by decide
   have hlf:∀y∈dig x.1.d,y.leaf=true:=by intro y hy;obtain ⟨n,_,rfl⟩:=List.mem_map.1 hy;rfl
   simp [q1,q15,q16,q17,q22,q23,q24,q3,hjl,ha,hl,ao,aD,r4,eo,hz,h32,ht32,hd0,hlf,ah,aq,hap,au hjl (by omega)]
   rw [hsu,←List.append_assoc]
   exact ⟨⟨J3,by simpa [hdv] using hg3,.inr ⟨by simp,hv3⟩,rfl⟩,hgrA.stays ((fh.app (sz:=32) J2 _).trans hst).at (by decide)⟩
 rintro s X ⟨hN,hnl⟩
 obtain ⟨v,q3⟩:∃v,s 3=v:=⟨_,rfl⟩
 rw [q3] at hN
 obtain ⟨J,hg,hv,rfl⟩:=hN
 have hperm:=S.permD (cM p)
 rcases hv with ⟨h0,rfl⟩ | ⟨h0,b',g',l',hv⟩
 ·have hl0:cM p=[]:=by simpa using h0
  have e1:=fun H' K=>S.sortD0 (base:=H.length) (H:=H') K
  have e2:=fun H' K=>S.compD0 (base:=H.length) (H:=H') K
  have hn0:dQ σ p=[]:=by
   rw [hl0] at hperm
   rw [dQ,hl0,hperm.eq_nil];rfl
  simp [q3,e1,e2,hl0,hn0]
  exact ak rfl
 ·obtain ⟨b,g,rfl,hb⟩:∃b g,v=.sl (H.length+1+b) g 32 0 (cM p).length∧J[b]?=some (.rows 32 g ((cM p).map ar.cells)):=by
   rcases hg with ⟨_,h⟩ | h | ⟨b,g,h,hb⟩
   ·rw [hv] at h;cases h
   ·rw [hv] at h;cases h
   ·exact ⟨b,g,by rw [h,List.length_map],hb⟩
  have hl0:cM p≠[]:=by simpa using h0
  have hbJ:b<J.length:=(List.getElem?_eq_some_iff.1 hb).1
  have hsl:(σ.d (cM p)).length=(cM p).length:=hperm.length_eq
  have e1:=fun K=>S.sortD (base:=H.length) (H:=H++.rows 5 0 [p.cells]::J) (b:=H.length+1+b) (g:=g) (l:=cM p) (by omega) (by omega) (by rw [jg];exact hb) K
  rw [pA] at e1
  obtain ⟨z,e2⟩:=S.compD (base:=H.length) (H:=H++.rows 5 0 [p.cells]::J.set b (.rows 32 g ((σ.d (cM p)).map ar.cells))) (b:=H.length+1+b) (g:=g) (l:=σ.d (cM p)) (by rw [hsl];omega) (by omega) (by rw [jg,List.getElem?_set_self hbJ])
  rw [pA,hsl] at e2
  simp [q3,e1,e2]
  rw [if_neg hl0]
  have hf:=A6 (d:=2) (k:=H.length) (b:=H.length+1+b) (g:=g) (H:=H++.rows 5 0 [p.cells]::(J.set b (.rows 32 g ((σ.d (cM p)).map ar.cells))).set b (.rows 32 g ((bJ (σ.d (cM p))).map ar.cells++z))) (m:=(bJ (σ.d (cM p))).map ar.cells) (z:=z) (by rw [jg,List.getElem?_set_self (by simpa using hbJ)]) (by omega) (aH ar.closed _)
  rw [List.length_map] at hf
  simp only [List.set_set] at hf
  rw [hf]
  unfold dQ
  cases (bJ (σ.d (cM p))).map ar.cells<;>rfl
end Go.Proofs.Ev
namespace Go.Proofs.Ev
open Go.Proofs
set_option maxRecDepth 100000 in
theorem FY (base:Nat) (H:ae) (k:SK) (l:List ar) (hl:l.length≤2^20):pt base [am k (l.map ar.cells)] H=if l=[] then some (.lst [] true,H) else some (.sl H.length 0 32 0 l.length,H++[.rows 32 0 (l.map ar.cells)]):=by
 by_cases h0:l=[]
 ·subst h0
  rw [if_pos rfl]
  cases k<;>rfl
 ·rw [if_neg h0]
  have hx:∃e,am k (l.map ar.cells)=.lst (l.map ar.cells) e:=by
   cases l with
   | nil=>exact absurd rfl h0
   | cons a l=>cases k<;>exact ⟨_,rfl⟩
  obtain ⟨e,he⟩:=hx
  rw [he]
  have hp:pt base [.lst (l.map ar.cells) e] H=rP Tryz.prog Dv 140 base [.lst (l.map ar.cells) e] H:=by
   cases l with
   | nil=>exact absurd rfl h0
   | cons a l=>rfl
  rw [hp]
  refine tL (aj Tryz.func140 rfl rfl (by simp) (by kernel_rfl) ?_)
  unfold Tryz.f140
  have heq:bP Tryz.prog Dv .eql 34 (.lst (l.map ar.cells) e) .nils=some (.bool false):=by
   cases l with
   | nil=>exact absurd rfl h0
   | cons a l=>simp [bP,qK]
  have ha:bg Tryz.prog base H #[34,34] (.lst [] true) (.lst (l.map ar.cells) e)=some (.sl H.length 0 32 0 l.length,H++[.rows 32 0 (l.map ar.cells)]):=by
   have h1:((#[34,34]:Array TypeId)[0]?).bind Tryz.prog.underlying=some (.slice 25):=by simp
   have h2:((#[34,34]:Array TypeId)[1]?).bind Tryz.prog.underlying=some (.slice 25):=by simp
   have hz:(aN Tryz.prog 25).map (fun z=>z.cells.length)=some 32:=by simp [show aJ.length=32 by decide]
   have hall:(l.map ar.cells).all (fun r=>decide (r.length=32))=true:=by simp
   unfold bg
   simp only [h1,h2,mD,AL,cq,cg]
   rw [if_pos ⟨hall,by decide,hz⟩,if_neg (by simp [h0]),if_pos ⟨trivial,by simp;omega,by simp⟩]
   simp
  simp [aE,heq,ah,aq,aN,ha]
end Go.Proofs.Ev
