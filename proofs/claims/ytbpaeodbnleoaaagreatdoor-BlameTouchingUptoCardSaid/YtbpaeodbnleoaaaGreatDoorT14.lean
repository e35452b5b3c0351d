/- Part 14 of the proof that quiltlaw38.BlameTouching returns true: no statement of its own. -/
import Derived.Test.YtbpaeodbnleoaaaGreatDoorT13
import Derived.Test.YtbpaeodbnleoaaaGreatDoorT12
import Derived.Lib.SliceRun
import Derived.Test.YtbpaeodbnleoaaaGreatDoorT11
set_option linter.all false
namespace Go.Proofs.Ev
open Go.RowKit
variable {P:Program} {C:bG} {N:gA} {φ φ':fE} {H H':ag} {w w':World} {n:Nat}
def wQ (P:Program) (C:bG) (N:gA) (k:Nat):Prop :=
 ∀base c s H e s' H',aV P C k base (.loop c) s H=some (e,s',H')→∀{φ w} {a:Act} {r B},base≤H.length→HR N φ H w→bM φ H.length w s a.tmps→fj B φ w a.defers→B≤w.heap.size→gB r w→
  ∀Q:Exit→Act→World→Prop,(∀a' w' φ',HR N φ' H' w'→cj φ H.length w φ' H'.length w'→bM φ' H'.length w' s' a'.tmps→fj B φ' w' a'.defers→(∀b,b<base→H'[b]?=H[b]?)→Q e.toExit a' w')→Code.roundsIn (Fw r) 0 P c Q k a w
theorem JN {k:Nat} (hcode:qN P C N k) (hloop:wQ P C N k):wQ P C N (k+1):=by
 intro base c s H e s' H' h φ w a r B hbase hH hs hm hB hr Q hQ
 rw [roundsIn_succ]
 simp only [aV] at h
 cases hc:aV P C k base c s H with
 | none=>rw [hc] at h;cases h
 | some x =>
  obtain ⟨e1,s1,H1⟩:=x
  rw [hc] at h
  refine hcode base c s H e1 s1 H1 hc hbase hH hs hm hB hr _ fun a1 w1 φ1 h1 hx1 hs1 hm1 hl1=>?_
  cases e1 with
  | normal =>
   simp only at h
   exact hloop base c s1 H1 e s' H' h (Nat.le_trans hbase hx1.le) h1 hs1 hm1 (Nat.le_trans hB hx1.size) (hr.mono hx1) Q
    fun a' w' φ' h2 hx2 hs2 hm2 hl2=>hQ a' w' φ' h2 (hx1.trans hx2) hs2 hm2 fun b hb=>(hl2 b hb).trans (hl1 b hb)
  | exit id=>simp only [Option.some.injEq,Prod.mk.injEq] at h;obtain ⟨rfl,rfl,rfl⟩:=h;exact hQ a1 w1 φ1 h1 hx1 hs1 hm1 hl1
  | ret=>simp only [Option.some.injEq,Prod.mk.injEq] at h;obtain ⟨rfl,rfl,rfl⟩:=h;exact hQ a1 w1 φ1 h1 hx1 hs1 hm1 hl1
theorem GN (hH:HR N φ H w) {b:Nat} {L:DO} (hL:φ b=some L) {rec rec':Loop} (hl:w.heap[L.cb]?=some (.loop rec)) :
 HR N (dU φ b) (H.set b .dead) (bE w L.cb (.loop rec'))∧cj φ H.length w (dU φ b) (H.set b .dead).length (bE w L.cb (.loop rec')):=by
 have hd:HR N (dU φ b) (H.set b .dead) w:=hH.del b
 have hnl:cK (dU φ b) L.cb:=by
  refine ⟨fun k L' hL' e=>?_,hH.resn b L hL⟩
  simp only [dU] at hL'
  split at hL'
  ·cases hL'
  ·rename_i hne;exact hne (hH.inj k b L' L hL' hL e)
 refine ⟨hd.putObj hl (by intro c T fr e;cases e) hnl,?_⟩
 refine ⟨by simp,by simp,fun k hk L' hL'=>?_,fun cb o hc hn=>(bq (hn.1 b L hL)).trans hc,fun cb hcb hn=>?_,fun cb r hr=>?_,rfl,fun cb o hr hc=>(bq fun e=>hH.resn b L hL (by rw [e];exact hr)).trans hc,.refl⟩
 ·simp only [dU] at hL'
  split at hL'
  ·cases hL'
  ·exact ⟨L',hL',Nat.le_refl _,fun _=>rfl⟩
 ·refine ⟨fun k L' hL'=>?_,hn.2⟩
  simp only [dU] at hL'
  split at hL'
  ·cases hL'
  ·exact hn.1 k L' hL'
 ·by_cases e:L.cb=cb
  ·subst e;exact ⟨rec',cM (Array.getElem?_eq_some_iff.1 hr).1⟩
  ·exact ⟨r,(bq e).trans hr⟩
theorem Jn {k:Nat} (hS:C.Sound P N) (hcode:qN P C N k) (hseq:CZ P C N k) (hstep:qP P C N k) (hfunc:wP P C N k) (hloop:wQ P C N (k+1)):qN P C N (k+1):=by
 intro base c s H e s' H' h φ w a r B hbase hH hs hm hB hr Q hQ
 cases c with
 | skip=>simp only [aV,Option.some.injEq,Prod.mk.injEq] at h;obtain ⟨rfl,rfl,rfl⟩:=h;exact wpIn_skip (hQ a w φ hH .refl hs hm fun _ _=>rfl)
 | label l=>simp only [aV,Option.some.injEq,Prod.mk.injEq] at h;obtain ⟨rfl,rfl,rfl⟩:=h;exact wpIn_label (hQ a w φ hH .refl hs hm fun _ _=>rfl)
 | ret=>simp only [aV,Option.some.injEq,Prod.mk.injEq] at h;obtain ⟨rfl,rfl,rfl⟩:=h;exact wpIn_ret (hQ a w φ hH .refl hs hm fun _ _=>rfl)
 | exit id=>simp only [aV,Option.some.injEq,Prod.mk.injEq] at h;obtain ⟨rfl,rfl,rfl⟩:=h;exact wpIn_exit (hQ a w φ hH .refl hs hm fun _ _=>rfl)
 | goto l=>simp [aV] at h
 | scope b=>simp [aV] at h
 | refuse y=>simp [aV] at h
 | seq x y =>
  simp only [aV] at h
  cases hc:aV P C k base x s H with
  | none=>rw [hc] at h;cases h
  | some p =>
   obtain ⟨e1,s1,H1⟩:=p
   rw [hc] at h
   refine wpIn_seq (hcode base x s H e1 s1 H1 hc hbase hH hs hm hB hr _ fun a1 w1 φ1 h1 hx1 hs1 hm1 hl1=>?_)
   cases e1 with
   | normal =>
    simp only at h
    exact hcode base y s1 H1 e s' H' h (Nat.le_trans hbase hx1.le) h1 hs1 hm1 (Nat.le_trans hB hx1.size) (hr.mono hx1) Q
     fun a' w' φ' h2 hx2 hs2 hm2 hl2=>hQ a' w' φ' h2 (hx1.trans hx2) hs2 hm2 fun b hb=>(hl2 b hb).trans (hl1 b hb)
   | exit id=>simp only [Option.some.injEq,Prod.mk.injEq] at h;obtain ⟨rfl,rfl,rfl⟩:=h;exact hQ a1 w1 φ1 h1 hx1 hs1 hm1 hl1
   | ret=>simp only [Option.some.injEq,Prod.mk.injEq] at h;obtain ⟨rfl,rfl,rfl⟩:=h;exact hQ a1 w1 φ1 h1 hx1 hs1 hm1 hl1
 | cond x y z =>
  simp only [aV] at h
  have hx:=eW hs x
  split at h
  ·rename_i hv
   rw [hv] at hx
   generalize hX:a.eval x=X at hx
   cases hx
   exact wpIn_cond_true hX (hcode base y s H e s' H' h hbase hH hs hm hB hr Q hQ)
  ·rename_i hv
   rw [hv] at hx
   generalize hX:a.eval x=X at hx
   cases hx
   exact wpIn_cond_false hX (hcode base z s H e s' H' h hbase hH hs hm hB hr Q hQ)
  ·cases h
 | block id b =>
  simp only [aV] at h
  cases hc:aV P C k base b s H with
  | none=>rw [hc] at h;cases h
  | some p =>
   obtain ⟨e1,s1,H1⟩:=p
   rw [hc] at h
   refine wpIn_block (hcode base b s H e1 s1 H1 hc hbase hH hs hm hB hr _ fun a1 w1 φ1 h1 hx1 hs1 hm1 hl1=>?_)
   cases e1 with
   | normal=>simp only [Option.some.injEq,Prod.mk.injEq] at h;obtain ⟨rfl,rfl,rfl⟩:=h;exact hQ a1 w1 φ1 h1 hx1 hs1 hm1 hl1
   | ret=>simp only [Option.some.injEq,Prod.mk.injEq] at h;obtain ⟨rfl,rfl,rfl⟩:=h;exact hQ a1 w1 φ1 h1 hx1 hs1 hm1 hl1
   | exit i =>
    simp only at h
    simp only [jG.toExit,Exit.inBlock]
    split at h
    ·rename_i hi
     simp only [Option.some.injEq,Prod.mk.injEq] at h;obtain ⟨rfl,rfl,rfl⟩:=h
     rw [if_pos hi];exact hQ a1 w1 φ1 h1 hx1 hs1 hm1 hl1
    ·rename_i hi
     simp only [Option.some.injEq,Prod.mk.injEq] at h;obtain ⟨rfl,rfl,rfl⟩:=h
     rw [if_neg hi];exact hQ a1 w1 φ1 h1 hx1 hs1 hm1 hl1
 | loop b=>exact wpIn_loop_rounds (k+1) (hloop base b s H e s' H' h hbase hH hs hm hB hr Q hQ)
 | region id ops draw =>
  cases draw with
  | true =>
   simp only [aV] at h
   split at h
   ·rename_i tr s1 H1 hrt
    split at h
    ·rename_i hok
     simp only [Option.some.injEq,Prod.mk.injEq] at h;obtain ⟨rfl,rfl,rfl⟩:=h
     exact Ab hS.mixed hstep hrt hok hbase hH hs hm hr hQ
    ·cases h
   ·cases h
  | false =>
   simp only [aV] at h
   cases hc:jC P C k base ops ops.toList s H with
   | none=>rw [hc] at h;cases h
   | some p =>
    obtain ⟨s1,H1⟩:=p
    rw [hc] at h
    simp only [Option.some.injEq,Prod.mk.injEq] at h;obtain ⟨rfl,rfl,rfl⟩:=h
    refine wpIn_region (hseq base ops ops.toList s H s1 H1 hc (List.range ops.size) ?_ hbase hH hs hm hB hr Q hQ)
    apply List.ext_getElem?
    intro i
    rw [List.getElem?_map,List.getElem?_map]
    rcases Nat.lt_or_ge i ops.size with hi | hi
    ·rw [List.getElem?_range hi,Array.getElem?_toList];simp [hi]
    ·rw [List.getElem?_eq_none (by simpa using hi),List.getElem?_eq_none (by simpa using hi)];rfl
 | rangeFunc g ps assign body =>
  simp only [aV] at h
  have hg:=eW hs g
  split at h
  ·rename_i f caps hv
   rw [hv] at hg
   cases hf:cD P C k base f (.yld H.length::caps) (H++[.loop true none s ps.toList assign body]) with
   | none=>rw [hf] at h;cases h
   | some p =>
    obtain ⟨v2,H2⟩:=p
    rw [hf] at h
    simp only at h
    obtain ⟨hent,hcall⟩:=hfunc base f _ _ v2 H2 hf
    generalize hG:a.eval g=G at hg
    cases hg with
    | fn hlc hcaps =>
    rename_i Cs
    have enter:∀(w1:World) (l:Nat) (mark:List Deferred) (dfr:Nat) (fid:FuncId),HR N (bK φ H.length ⟨0,l,0⟩) (H++[.loop true none s ps.toList assign body]) w1→cj φ H.length w (bK φ H.length ⟨0,l,0⟩) (H.length+1) w1→
     fj B (bK φ H.length ⟨0,l,0⟩) w1 (mark++a.defers)→
     CallsIn (Fw r) 0 P f (#[Value.func (Fn.yield l) #[] #[]]++Cs) w1 (rangePost (Fw r) 0 P l Q { a with defers:=mark++a.defers }):=by
     intro w1 l mark dfr fid h1 hx1 hm1
     have hargs:kN (fun v V=>RV (bK φ H.length ⟨0,l,0⟩) (H++[bQ.loop true none s ps.toList assign body]).length w1 v V) (.yld H.length::caps) (#[Value.func (Fn.yield l) #[] #[]]++Cs).toList:=by
      rw [Array.toList_append]
      refine .cons (.yld (by simp) fun L hL _=>?_) (kN.of_get (by simp [hlc]) fun i x y hx hy=>?_)
      ·simp only [bK,if_true,Option.some.injEq] at hL;subst hL;rfl
      ·exact (hcaps i x y hx (by simpa using hy)).mono (by simpa using hx1)
     refine jx ((hcall (by simpa using Nat.le_succ_of_le hbase) h1 hargs).mono ?_)
     rintro e2 w2 ⟨V,φ2,rfl,hv2,h2,hx2,hl2⟩
     have hlow:∀b,b<base→(H2.set H.length .dead)[b]?=H[b]?:=by
      intro b hb
      rw [List.getElem?_set_ne (by omega),hl2 b hb,List.getElem?_append_left (by omega)]
     have hxx:cj φ H.length w φ2 H2.length w2:=hx1.trans (by simpa using hx2)
     have finish:∀ready pend sl p1 a1 b1,H2[H.length]?=some (.loop ready pend sl p1 a1 b1)→(ready=true∧pend=none∨ready=false∧pend≠none)→
      ∃w3,(Instr.endLoop l).run P w2=.ok pend w3∧∃φ3,HR N φ3 (H2.set H.length .dead) w3∧cj φ H.length w φ3 (H2.set H.length .dead).length w3∧fj B φ3 w3 (mark++a.defers):=by
      intro ready pend sl p1 a1 b1 hblk hst
      obtain ⟨L,rec,g1,g2,g3,g4,g5,g6,g7,g8,g9⟩:=h2.loop _ _ _ _ _ _ _ hblk
      have hcb:L.cb=l:=by
       obtain ⟨L0,e1,e2,e3⟩:=hx2.loc H.length (by simp) L g1
       simp only [bK,if_true,Option.some.injEq] at e1
       subst e1
       rw [←e3 (by simp;omega)]
      have hnb:rec.state≠.busy:=by
       rw [g4]
       rcases hst with ⟨rfl,rfl⟩ | ⟨rfl,hp⟩
       ·simp
       ·cases pend with
        | none=>exact absurd rfl hp
        | some c=>simp
      obtain ⟨r1,r2⟩:=GN h2 g1 (rec':={ rec with state:=.exhausted }) g3
      refine ⟨bE w2 L.cb (.loop { rec with state:=.exhausted }),?_,dU φ2 H.length,r1,hxx.trans r2,?_⟩
      ·rw [←hcb,←g5];exact run_endLoop g3 hnb
      ·exact (hm1.mono hx2).mono r2
     split at h
     ·rename_i sl p1 a1 b1 hblk
      simp only [Option.some.injEq,Prod.mk.injEq] at h;obtain ⟨rfl,rfl,rfl⟩:=h
      obtain ⟨w3,k1,φ3,k2,k3,k4⟩:=finish _ _ _ _ _ _ hblk (.inl ⟨rfl,rfl⟩)
      exact ⟨none,w3,k1,hQ _ w3 φ3 k2 k3 (hs.mono k3) k4 hlow⟩
     ·rename_i c sl p1 a1 b1 hblk
      obtain ⟨w3,k1,φ3,k2,k3,k4⟩:=finish _ _ _ _ _ _ hblk (.inr ⟨rfl,by simp⟩)
      refine ⟨some c,w3,k1,?_⟩
      refine hcode base c s _ e s' H' h (a:={ a with defers:=mark++a.defers }) (by simpa using Nat.le_trans hbase hxx.le) k2 (hs.mono k3) k4 (Nat.le_trans hB k3.size) (hr.mono k3) Q ?_
      intro a' w' φ' h4 hx4 hs4 hm4 hl4
      exact hQ a' w' φ' h4 (k3.trans hx4) hs4 hm4 fun b hb=>(hl4 b hb).trans (hlow b hb)
     ·cases h
    refine wpIn_rangeFunc fun fid _=>?_
    have hres:∀(l:Nat) (w1:World),(resolve a.eval (rangeCall g l) 0).run P w1=.ok { target:=.fn (.func f) Cs,args:=#[Value.func (Fn.yield l) #[] #[]] } w1:=by
     intro l w1
     simp only [resolve]
     rw [hG]
     simp [Deferred.ofValue,Act.eval]
    have hinv:∀(l:Nat) (w1:World),(invoke (.fn (.func f) Cs) #[Value.func (Fn.yield l) #[] #[]]).run P w1=.ok (.enter f (#[Value.func (Fn.yield l) #[] #[]]++Cs)) w1:=by
     intro l w1
     simp only [invoke,hent]
    cases r with
    | none =>
     have hrec:HR N (bK φ H.length ⟨0,w.heap.size+1,0⟩) (H++[.loop true none s ps.toList assign body]) ((w.alloc (.deferred (some []))).alloc (.loop { state:=.ready,pending:=none,fn:=fid,tmps:=a.tmps,params:=ps,assign,body,defers:=w.heap.size })):=by
      have h0:=hH.alloc_out (.deferred (some []))
      have:=h0.alloc (.loop { state:=.ready,pending:=none,fn:=fid,tmps:=a.tmps,params:=ps,assign,body,defers:=w.heap.size }) 0 0 (.loop true none s ps.toList assign body) (by simp) (by simp) (by simp)
       (by intro _ _ _ _ _ _ e';cases e';exact ⟨_,rfl,rfl,by simp,rfl,rfl,rfl,rfl,hs.mono (cj.alloc_out _)⟩)
      simpa using this
     have hx:cj φ H.length w (bK φ H.length ⟨0,w.heap.size+1,0⟩) (H.length+1) ((w.alloc (.deferred (some []))).alloc (.loop { state:=.ready,pending:=none,fn:=fid,tmps:=a.tmps,params:=ps,assign,body,defers:=w.heap.size })):=by
      have h1:cj φ H.length w φ H.length (w.alloc (.deferred (some []))):=cj.alloc_out _
      have h2:=h1.trans (cj.alloc (.loop { state:=.ready,pending:=none,fn:=fid,tmps:=a.tmps,params:=ps,assign,body,defers:=w.heap.size }) 0 0)
      simpa using h2
     refine ⟨w.heap.size+1,[{ target:=.collected w.heap.size,args:=#[] }],_,_,_,f,_,_,run_enterLoop_outer _ _ _ _ _,hres _ _,fun _ _=>trivial,hinv _ _,fun hd=>by simp [Fw,Fence.wide] at hd,enter _ _ _ 0 fid hrec hx ?_⟩
     refine .cons hB ?_ ?_ ?_ (hm.mono hx)
     ·exact (aX (by simp)).trans be
     ·refine ⟨fun k L hL=>?_,fun hres=>by have:=hH.ress _ hres;simp at this⟩
      simp only [bK] at hL
      split at hL
      ·cases hL;simp
      ·exact hH.fresh_cb hL
     ·intro d hd ht
      have:∀{ds:List Deferred},fj B φ w ds→∀d∈ds,d.target≠Target.collected w.heap.size:=by
       intro ds hmk
       induction hmk with
       | nil=>intro d hd;simp at hd
       | cons _ hk _ _ _ ih =>
        intro d hd
        rcases List.mem_cons.1 hd with rfl | hd
        ·intro e';cases e';have:=(Array.getElem?_eq_some_iff.1 hk).1;omega
        ·exact ih d hd
      exact this hm d hd ht
    | some l0 =>
     obtain ⟨rec0,hrec0⟩:=hr l0 rfl
     have hrec:HR N (bK φ H.length ⟨0,w.heap.size,0⟩) (H++[.loop true none s ps.toList assign body]) (w.alloc (.loop { state:=.ready,pending:=none,fn:=fid,tmps:=a.tmps,params:=ps,assign,body,defers:=rec0.defers })) :=
      hH.alloc _ 0 0 (.loop true none s ps.toList assign body) (by simp) (by simp) (by simp)
       (by intro _ _ _ _ _ _ e';cases e';exact ⟨_,rfl,rfl,by simp,rfl,rfl,rfl,rfl,hs⟩)
     refine ⟨w.heap.size,[],_,_,_,f,_,_,run_enterLoop_inner hrec0 _ _ _ _ _,hres _ _,fun _ _=>trivial,hinv _ _,fun hd=>by simp [Fw,Fence.wide] at hd,enter _ _ _ 0 fid hrec (cj.alloc _ 0 0) (hm.mono (cj.alloc _ 0 0:cj φ H.length w _ _ _))⟩
  ·cases h
theorem qR (hS:C.Sound P N):∀k,qN P C N k∧CZ P C N k∧qP P C N k∧AR P C N k∧wP P C N k∧wQ P C N k:=by
 intro k
 induction k with
 | zero =>
  refine ⟨?_,?_,?_,?_,?_,?_⟩
  ·intro base c s H e s' H' h;simp [aV] at h
  ·intro base ops l s H s' H' h;simp [jC] at h
  ·intro base ops o s H v H' h;simp [bL] at h
  ·intro base f args H v H' h;unfold dp at h;cases h
  ·intro base f args H v H' h;simp [cD] at h
  ·intro base c s H e s' H' h;simp [aV] at h
 | succ k ih =>
  obtain ⟨h1,h2,h3,h4,h5,h6⟩:=ih
  have hl:=JN h1 h6
  exact ⟨Jn hS h1 h2 h3 h5 hl,MF h3 h2,KF hS h4,Jh h5 h1,JA hS h1,hl⟩
end Go.Proofs.Ev
namespace Go.Proofs.Ev
open Go.Proofs
variable {N:gA} {φ:fE} {H:ag} {w w':World}
set_option maxRecDepth 100000 in
set_option maxHeartbeats 1000000 in
theorem A8 (a:Addr) (cap:Nat):CallsIn (Fw none) 0 Tryz.prog 122 #[.slice (some a) 0 cap] w fun e w2=>e=.returned (.slice (some ⟨w.heap.size,0,none⟩) 0 0)∧w2=w.alloc (Obj.cells #[] 25):=by
 refine callsIn_of_wp Tryz.func122 rfl trivial ?_ rfl
 have hn:Tryz.f122.ntmps=8:=rfl
 simp only [hn,List.size_toArray,List.length_cons,List.length_nil,Nat.reduceAdd,Nat.reduceSub,Array.replicate_succ,Array.replicate_zero,List.push_toArray,List.append_toArray,List.nil_append,List.cons_append]
 gi_wp2
 rw [Lib.run_eql_slice_nil w 30 25 (some a) 0 cap 0 0 (by kernel_rfl)]
 simp only [Result.andThen,Option.isNone]
 gi_wp2
 go_ret
 exact ⟨rfl,rfl⟩
set_option maxRecDepth 100000 in
set_option maxHeartbeats 1000000 in
theorem rW (cap:Nat):CallsIn (Fw none) 0 Tryz.prog 122 #[.slice none 0 cap] w fun e w2=>e=.returned (.slice none 0 0)∧w2=w:=by
 refine callsIn_of_wp Tryz.func122 rfl trivial ?_ rfl
 have hn:Tryz.f122.ntmps=8:=rfl
 simp only [hn,List.size_toArray,List.length_cons,List.length_nil,Nat.reduceAdd,Nat.reduceSub,Array.replicate_succ,Array.replicate_zero,List.push_toArray,List.append_toArray,List.nil_append,List.cons_append]
 gi_wp2
 rw [Lib.run_eql_slice_nil w 30 25 none 0 cap 0 0 (by kernel_rfl)]
 simp only [Result.andThen,Option.isNone]
 gi_wp2
 go_ret
 exact ⟨rfl,rfl⟩
def D6:bG:=⟨fun _=>none,fun _=>false,fun _=>false,fun _=>none⟩
theorem qu:∀(f:Nat) (fn:Func),Tryz.prog.funcs[f]?=some fn→fn.body.isSome=true→(fn.name== "runtime.NumGoroutine")=false:=by
 have h:Tryz.prog.funcs.all (fun fn=>!(fn.body.isSome&&fn.name== "runtime.NumGoroutine"))=true:=by kernel_rfl
 intro f fn hf hb
 obtain ⟨hi,rfl⟩:=Array.getElem?_eq_some_iff.1 hf
 have:=(Array.all_eq_true.1 h) f hi
 rw [hb] at this
 simpa using this
theorem jh {N:gA} (hT:fC Tryz.prog N):D6.Sound Tryz.prog N:=⟨⟨fun _ _ h=>by cases h⟩,by kernel_rfl,hT,qu,fun _ _ h=>by cases h⟩
open Classical in
noncomputable def sb (P:Program) (C:bG) (f:FuncId) (base:Nat) (args:List AV) (H:ag):Option (AV×ag) :=
 if h:∃r,∃n,cD P C n base f args H=some r then some (Classical.choose h) else none
theorem Bq {P:Program} {C:bG} {f:FuncId} {base:Nat} {args:List AV} {H:ag} {r:AV×ag} (h:sb P C f base args H=some r):∃n,cD P C n base f args H=some r:=by
 unfold sb at h
 split at h
 ·rename_i h0
  cases h
  exact Classical.choose_spec h0
 ·cases h
theorem tQ {P:Program} {C:bG} {f:FuncId} {base:Nat} {args:List AV} {H:ag} {v:AV} {H':ag} (h:dW P C base f args H fun v' X=>v'=v∧X=H'):sb P C f base args H=some (v,H'):=by
 obtain ⟨n,v1,X,h1,rfl,rfl⟩:=h
 have h0:∃r,∃n,cD P C n base f args H=some r:=⟨_,n,h1⟩
 unfold sb
 rw [dif_pos h0]
 obtain ⟨m,h2⟩:=Classical.choose_spec h0
 have e1:=km (Nat.le_max_left n m) h1
 have e2:=km (Nat.le_max_right n m) h2
 rw [e1] at e2
 rw [←Option.some.inj e2]
theorem zk {P:Program} {C:bG} {N:gA} (hC:C.Sound P N) {f:FuncId} (hb:∃fn:Func,P.funcs[f]?=some fn∧fn.body.isSome=true):fZ P N f (sb P C f):=by
 refine ⟨hb,fun base args H v H' h φ w Vs hbs hH ht=>?_⟩
 obtain ⟨n,h1⟩:=Bq h
 exact ((qR hC n).2.2.2.2.1 base _ args H v H' h1).2 hbs hH ht
noncomputable def pv (base:Nat) (args:List AV) (H:ag):Option (AV×ag) :=
 match args with
 | [.lst [] _]=>some (.lst [] true,H)
 | [.nils]=>some (.lst [] true,H)
 | _=>sb Tryz.prog D6 122 base args H
theorem Gz {N:gA} (hT:fC Tryz.prog N):fZ Tryz.prog N 122 pv:=by
 refine ⟨⟨_,Tryz.func122,rfl⟩,fun base args H v H' h φ w Vs hb hH ht=>?_⟩
 unfold pv at h
 split at h
 ·rename_i e
  cases h
  obtain ⟨X,rfl,h1⟩:=qJ ht
  cases h1 with
  | lst Vs esz hlen hcap he hb hr =>
   rename_i bs len cap
   have hl0:len=0:=hlen
   subst hl0
   cases bs with
   | none =>
    refine (rW cap).mono ?_
    rintro e w' ⟨rfl,rfl⟩
    exact ⟨_,φ,rfl,.lst (fun _ _=>.pointer none) 0 rfl (Nat.le_refl _) (fun _=>rfl) (fun h=>absurd rfl h) (fun i row hi=>by simp at hi),hH,cj.refl,fun _ _=>rfl⟩
   | some a =>
    refine (A8 a cap).mono ?_
    rintro e w' ⟨rfl,rfl⟩
    exact ⟨_,φ,rfl,.lst (fun _ _=>.pointer none) 0 rfl (Nat.le_refl _) (fun _=>rfl) (fun h=>absurd rfl h) (fun i row hi=>by simp at hi),hH.alloc_out _,cj.alloc_out _,fun _ _=>rfl⟩
 ·cases h
  obtain ⟨X,rfl,h1⟩:=qJ ht
  cases h1
  refine (rW 0).mono ?_
  rintro e w' ⟨rfl,rfl⟩
  exact ⟨_,φ,rfl,.lst (fun _ _=>.pointer none) 0 rfl (Nat.le_refl _) (fun _=>rfl) (fun h=>absurd rfl h) (fun i row hi=>by simp at hi),hH,cj.refl,fun _ _=>rfl⟩
 ·exact (zk (jh hT) ⟨_,Tryz.func122,rfl⟩).2 base args H v H' h φ w Vs hb hH ht
end Go.Proofs.Ev
namespace Go.Proofs.Ev
open Go.Proofs
variable {C:bG}
structure aC.Fit (p:aC):Prop where
 ok:p.Ok
 ok2:p.Ok2
 deps:p.deps.length≤1000
 changes:p.changes.length≤1000
 over:∀c∈p.changes,c.over.length≤400
 atoms:(aR p).length≤2^20
 atomOver:∀x∈aR p,x.over.length≤2^10
theorem lJ {b:Nat}:∀{l:List SX},(∀x∈l,x.nodes≤b)→SX.nodess l≤b*l.length
 | [],_=>by simp [SX.nodess]
 | x::l,h=>by
  have:=lJ (l:=l) fun y hy=>h y (by simp [hy])
  have:=h x (by simp)
  simp only [SX.nodess,List.length_cons,Nat.mul_add];omega
theorem nodess_append:∀a b:List SX,SX.nodess (a++b)=SX.nodess a+SX.nodess b
 | [],b=>by simp [SX.nodess]
 | x::a,b=>by simp only [List.cons_append,SX.nodess,nodess_append a b];omega
theorem kw (l:List SX) (k:SK):(fp l k).nodes=SX.nodess l+1:=rfl
theorem pt (s:List UInt8):(bT s).nodes=1:=rfl
theorem n5 (n:Int):(fO n).nodes=1:=rfl
theorem wk (d:List Nat):(jF d).nodes=1:=by unfold jF;split<;>rfl
theorem rt (x:aI):(dN x).nodes=3:=by simp [dN,kw,SX.nodess,wk,n5]
theorem B8 (l:List aI):(nA l).nodes≤3*l.length+1:=by
 have:=lJ (l:=l.map dN) (b:=3) fun x hx=>by obtain ⟨y,_,rfl⟩:=List.mem_map.1 hx;rw [rt];omega
 rw [nA,kw];simp at this;omega
theorem zP (l:List (List UInt8)):(nt l).nodes≤l.length+1:=by
 have:=lJ (l:=l.map bT) (b:=1) fun x hx=>by obtain ⟨y,_,rfl⟩:=List.mem_map.1 hx;rw [pt];omega
 rw [nt,kw];simp at this;omega
theorem EW (c:aW) (h1:c.lines.length≤40) (h2:c.over.length≤40):(lx c).nodes≤200:=by
 have a1:SX.nodess (mM c)≤3:=by unfold mM;split<;>simp [SX.nodess,rt]
 have a2:SX.nodess (jM c)≤6:=by unfold jM;repeat' split
                                all_goals simp [SX.nodess,rt,n5,pt]
 have a3:SX.nodess (yL c)≤130:=by
  have:=B8 c.over
  have:=zP c.lines
  unfold yL;repeat' split
  all_goals simp [SX.nodess]
  all_goals omega
 rw [lx,kw,kP,SX.nodess,nodess_append,nodess_append,n5];omega
theorem B9 (p:aC) (h1:p.deps.length≤20) (h2:p.changes.length≤20) (h3:∀c∈p.changes,c.lines.length≤40∧c.over.length≤40):(dK p).nodes≤2^40:=by
 have a1:=lJ (l:=p.deps.map fun d=>jF d.d) (b:=1) fun x hx=>by obtain ⟨y,_,rfl⟩:=List.mem_map.1 hx;rw [wk];omega
 have a2:=lJ (l:=p.changes.map lx) (b:=200) fun x hx=>by obtain ⟨y,hy,rfl⟩:=List.mem_map.1 hx;exact EW y (h3 y hy).1 (h3 y hy).2
 simp only [List.length_map] at a1 a2
 simp only [dK,kw,SX.nodess,pt,n5];omega
theorem EN {c:aW} {f:Nat}:∀x∈cg c f,x.over=[]∨x.over=c.over:=by
 intro x hx
 unfold cg at hx
 repeat' split at hx
 all_goals first
  | (simp only [List.mem_singleton] at hx;subst hx;simp [b9];done)
  | (rcases List.mem_append.1 hx with hx | hx<;>obtain ⟨i,_,rfl⟩:=List.mem_map.1 hx<;>exact .inl rfl)
theorem EM (c:aW) (f:Nat) (h:c.lines.length≤40):(cg c f).length≤81:=by
 unfold cg;repeat' split
 all_goals simp
 all_goals omega
theorem oW:∀(l:List aW) (own:List aH),(∀c∈l,c.lines.length≤40∧c.over.length≤40)→(∀x∈own,x.over.length≤40)→(kg l own).2.length≤own.length+81*l.length∧∀x∈(kg l own).2,x.over.length≤40
 | [],own,_,ho=>by simp [kg];exact ho
 | c::l,own,h,ho=>by
  rw [kg]
  by_cases h1:gW c≠0
  ·rw [if_pos h1];simp
  ·rw [if_neg h1]
   by_cases h2:li c own≠0
   ·rw [if_pos h2];simp
   ·rw [if_neg h2]
    have hc:=h c (by simp)
    have hm:=EM c own.length hc.1
    have:=oW l (own++cg c own.length) (fun c hc=>h c (by simp [hc])) (by
     intro x hx
     rcases List.mem_append.1 hx with hx | hx
     ·exact ho x hx
     ·rcases EN x hx with h | h<;>rw [h]
      ·simp
      ·exact hc.2)
    refine ⟨?_,this.2⟩
    have h3:=this.1
    simp only [List.length_append,List.length_cons] at h3 ⊢;omega
theorem xp {p:aC} (hs:p.Sz) (hg:eF p=false):p.Fit∧p.deps.length≤20∧p.changes.length≤20∧∀c∈p.changes,c.lines.length≤40∧c.over.length≤40:=by
 unfold eF at hg
 simp only [Bool.or_eq_false_iff,decide_eq_false_iff_not,Nat.not_lt,List.any_eq_false] at hg
 obtain ⟨h1,⟨_,h2⟩,h3⟩:=hg
 have h4:∀c∈p.changes,c.lines.length≤40∧c.over.length≤40:=by
  intro c hc
  have:=h1 c hc
  simp only [tk,pl,Bool.or_eq_true,decide_eq_true_eq,not_or,Nat.not_lt] at this
  exact ⟨this.1.1,this.2⟩
 have ha:=hs.author
 have hm:=hs.message
 have hb:=oW p.changes [] h4 (by simp)
 have hL:aR p=[]∨aR p=(kg p.changes []).2:=by unfold aR;split<;>simp
 have hok:∀c∈p.changes,c.Ok:=fun c hc=>⟨by have:=(hs.changes c hc).name;omega,by have:=(hs.changes c hc).data;omega,fun x hx=>by have:=(hs.changes c hc).lines x hx;omega,by have:=(h4 c hc).1;omega,by have:=(h4 c hc).2;omega⟩
 refine ⟨⟨⟨by omega,by omega,by omega,by omega,hok⟩,⟨by omega,by omega,fun c hc=>⟨by have:=(h4 c hc).1;omega,by have:=(h4 c hc).2;omega⟩,B9 p h2 h3 h4⟩,by omega,by omega,fun c hc=>by have:=(h4 c hc).2;omega,?_,?_⟩,h2,h3,h4⟩
 ·rcases hL with h | h<;>rw [h]
  ·simp
  ·have:=hb.1;simp at this;omega
 ·intro x hx
  rcases hL with h | h<;>rw [h] at hx
  ·simp at hx
  ·have:=hb.2 x hx;omega
structure mT (s:List ah):Prop where
 n:s.length≤8
 p:∀x∈s,x.patch.Fit
theorem wF {s:List ah} (hs:om s) (hg:ko s=false):mT s:=by
 unfold ko at hg
 simp only [Bool.or_eq_false_iff,decide_eq_false_iff_not,Nat.not_lt,List.any_eq_false] at hg
 obtain ⟨h1,h2,_⟩:=hg
 refine ⟨h2,fun x hx=>(xp (hs.p x hx) ?_).1⟩
 have:=h1 x (by rw [List.take_of_length_le (by omega)];exact hx)
 simpa using this
def kM:aC:=⟨[],[],0,[],.nil,[],.nil⟩
theorem FQ:kM.Fit:=by
 refine (xp ⟨by simp [kM],by simp [kM],by simp [kM],by simp [kM],by simp [kM]⟩ ?_).1
 simp [eF,kM,Iz]
end Go.Proofs.Ev
namespace Go.Proofs.Ev
open Go.Proofs
variable {C:bG}
theorem Kw (S:cm C) (l:List ah) (k:SK) (hl:l.length≤2^20):cE Tryz.prog C 35 [] [aw k (l.map ah.cells)] (aw (nX l) ((l.map fun x=>x.id).map ar.cells)):=by
 refine aB (S.pure7 _ (by decide)) fun H=>am Tryz.func35 rfl (S.prim _ (by decide)) (by simp) (by kernel_rfl) ?_
 unfold Tryz.f35
 simp [aG,aj,au]
 refine az l.length (fun i s H'=>∃J,H'=H++J∧s 0=aw k (l.map ah.cells)∧s 4=.int .i64 i∧aT H.length 32 J (s 3) (((l.take i).map fun x=>x.id).map ar.cells)∧(i=0→s 3=.lst [] true)∧(s 3=.lst [] true∨∃b g l,s 3=.sl b g 32 0 l)) ?_ ?_
 ·exact ⟨[],by simp,rfl,rfl,.lst [],fun _=>rfl,.inl rfl⟩
 rintro i s H' ⟨J,rfl,e0,e4,hg,hz,hz2⟩ hi
 by_cases h:i<l.length
 ·obtain ⟨v',J',ha,hg',hs'⟩:=tf (H0:=H) (Z:=H) rfl (Nat.le_refl _) (x:=.lst [l[i].id.cells] true) (ys:=[l[i].id]) hg rfl (by simp;omega)
  have et:(l.take (i+1)).map (fun x=>x.id)=(l.take i).map (fun x=>x.id)++[l[i].id]:=by
   rw [List.take_add_one,List.getElem?_eq_getElem h,List.map_append];rfl
  rw [←et] at hg'
  simp [e0,e4,h,aj,au,ha,show aP.length=32 from rfl,ay h (by omega)]
  exact ⟨by simpa using hg',.inr (hs' (.inl (by simp)))⟩
 ·have h':i=l.length:=by omega
  subst h'
  rw [List.take_length] at hg
  simp [e0,e4]
  have hf:=hg.freezeE (Z:=H) (L:=[]) (k:=H.length) (d:=2) rfl (Nat.le_refl _) (aM ar.closed _) (fun h=>hz (by simpa using h)) hz2
  rw [List.append_nil] at hf
  rw [hf]
  have hk:nX ((l.map fun x=>x.id).map ar.cells)=nX l:=by unfold nX;cases l<;>rfl
  rw [hk,List.map_map]
def d3 (s:List ah) (d:List Nat):aC:=match s.find? (fun x=>decide (x.id.d=d)) with | some x=>x.patch | none=>kM
def jn (s:List ah) (d:List Nat):Bool:=(s.find? fun x=>decide (x.id.d=d)).isSome
@[simp] theorem LG:[AV.str [],.str [],.int .i64 0,.nils,.nils]=kM.cells:=rfl
theorem GZ {s:List ah} (hs:mT s) (d:List Nat):(d3 s d).Fit:=by
 unfold d3
 split
 ·rename_i x hx;exact hs.p x (List.mem_of_find?_eq_some hx)
 ·exact FQ
set_option maxHeartbeats 1000000 in
theorem Fr (S:cm C) (l:List ah) (k:SK) (d:ar) (hl:l.length≤2^20):cE Tryz.prog C 206 [] [aw k (l.map ah.cells),.agg d.cells] (.tup [.agg (d3 l d.d).cells,.bool (jn l d.d)]):=by
 refine aB (S.pure7 _ (by decide)) fun H=>am Tryz.func206 rfl (S.prim _ (by decide)) (by simp) (by kernel_rfl) ?_
 unfold Tryz.f206
 have e:=mj S.toaA
 simp [aG]
 refine az l.length (fun i s H'=>H'=H++[.rows 32 0 [d.cells],.rows 5 0 [kM.cells]]∧s 0=aw k (l.map ah.cells)∧s 3=.ptr H.length 0 32 0 0∧s 4=.ptr (H.length+1) 0 5 0 0∧s 6=.int .i64 i∧l.find? (fun x=>decide (x.id.d=d.d))=(l.drop i).find? (fun x=>decide (x.id.d=d.d))) ?_ ?_
 ·exact ⟨rfl,rfl,rfl,rfl,rfl,rfl⟩
 rintro i s H' ⟨rfl,e0,e3,e4,e6,hc⟩ hi
 by_cases h:i<l.length
 ·rw [List.drop_eq_getElem_cons h,List.find?_cons] at hc
  by_cases hd:l[i].id.d=d.d
  ·rw [show decide (l[i].id.d=d.d)=true by simpa using hd] at hc
   have h1:d3 l d.d=l[i].patch:=by unfold d3;rw [hc]
   have h2:jn l d.d=true:=by unfold jn;rw [hc];rfl
   rw [h1,h2]
   simp [e0,e3,e4,e6,h,e,hd,ao]
   exact bN (aq (v:=.agg _) (aC.closed _)) (by simp)
  ·rw [show decide (l[i].id.d=d.d)=false by simpa using hd] at hc
   simp [e0,e3,e4,e6,h,e,hd,ay h (by omega)]
   exact hc
 ·have h':i=l.length:=by omega
  subst h'
  rw [List.drop_length] at hc
  have h1:d3 l d.d=kM:=by unfold d3;rw [hc];rfl
  have h2:jn l d.d=false:=by unfold jn;rw [hc];rfl
  rw [h1,h2]
  simp [e0,e3,e4,e6,ao,aE]
  exact bN (aq (v:=.agg _) (aC.closed _)) (by simp)
end Go.Proofs.Ev
namespace Go.Proofs.Ev
open Go.Proofs
variable {C:bG}
def sP (s:List ah) (out:List ar) (x:ah) (k:Int):Bool :=
 !bV out x.id.d&&gD out (dw x.patch).2&&(decide (k<0)||match s[k.toNat]? with | some y=>decide (bZ x.id.d y.id.d<0) | none=>false)
def iC (s:List ah) (out:List ar):Nat→Int
 | 0=>-1
 | i+1=>match s[i]? with | some x=>if sP s out x (iC s out i) then (i:Int) else iC s out i | none=>iC s out i
theorem my (s:List ah) (out:List ar):∀i,-1≤iC s out i∧iC s out i<i∧(0≤iC s out i→∃x,s[(iC s out i).toNat]?=some x∧bV out x.id.d=false∧gD out (dw x.patch).2=true)
 | 0=>by simp [iC]
 | i+1=>by
  have ih:=my s out i
  rw [iC]
  cases hx:s[i]? with
  | none=>simp only;exact ⟨ih.1,by omega,ih.2.2⟩
  | some x =>
   simp only
   by_cases hc:sP s out x (iC s out i)=true
   ·rw [if_pos hc]
    simp only [sP,Bool.and_eq_true,Bool.not_eq_true'] at hc
    exact ⟨by omega,by omega,fun _=>⟨x,by simpa using hx,hc.1.1,hc.1.2⟩⟩
   ·rw [if_neg hc];exact ⟨ih.1,by omega,ih.2.2⟩
def rx (s:List ah):Nat→List ar→List ar
 | 0,out=>out
 | n+1,out=>match s[(iC s out s.length).toNat]? with | some x=>if iC s out s.length<0 then out else rx s n (out++[x.id]) | none=>out
inductive iI (s:List ah):List ar→Prop
 | nil:iI s []
 | snoc {out:List ar} {x:ah} (h:iI s out) (hx:x∈s) (h1:bV out x.id.d=false) (h2:gD out (dw x.patch).2=true):iI s (out++[x.id])
theorem qv (s:List ah):∀n out,iI s out→iI s (rx s n out)
 | 0,out,h=>h
 | n+1,out,h=>by
  rw [rx]
  cases hx:s[(iC s out s.length).toNat]? with
  | none=>exact h
  | some x =>
   simp only
   split
   ·exact h
   ·rename_i hp
    obtain ⟨y,hy,h1,h2⟩:=(my s out s.length).2.2 (by omega)
    rw [hx] at hy;cases hy
    exact qv s n _ (.snoc h (List.mem_of_getElem? hx) h1 h2)
theorem wj {p:aC} (hp:p.Fit):(dw p).2.length≤2^40:=by
 unfold dw
 split
 ·simp
 ·have h1:=lC og p.deps (.exact,[])
  have h2:=tG p.changes hp.over (p.deps.foldl fS (.exact,[]))
  have:=hp.deps
  have:=hp.changes
  simp at h1;omega
set_option maxRecDepth 100000 in
set_option maxHeartbeats 4000000 in
theorem As (S:cm C) (l:List ah) (k:SK) (hl:mT l):cE Tryz.prog C 38 [] [aw k (l.map ah.cells)] (aw (nX (rx l l.length [])) ((rx l l.length []).map ar.cells)):=by
 refine aB (S.pure7 _ (by decide)) fun H=>am Tryz.func38 rfl (S.prim _ (by decide)) (by simp) (by kernel_rfl) ?_
 unfold Tryz.f38
 have hn:=hl.n
 simp [aG,aj,au]
 refine az l.length (fun i s H'=>∃J out,H'=H++J∧s 0=aw k (l.map ah.cells)∧out.length=i∧aT H.length 32 J (s 3) (out.map ar.cells)∧(out=[]→s 3=.lst [] true)∧(s 3=.lst [] true∨∃b g l,s 3=.sl b g 32 0 l)∧rx l l.length []=rx l (l.length-i) out) ?_ ?_
 ·exact ⟨[],[],by simp,rfl,rfl,.lst [],fun _=>rfl,.inl rfl,rfl⟩
 rintro i s H' ⟨J,out,rfl,e0,ho,hg,hz,hz2,hord⟩ hi
 have hlen:=fun HH=>hg.len (P:=Tryz.prog) (t:=30) (e:=25) (H:=HH) (by simp)
 rw [List.length_map,ho] at hlen
 have hf:=fun k d hk=>hg.freezeE (Z:=H) (L:=[]) (k:=k) (d:=d) rfl hk (aM ar.closed _) (fun h=>hz (by simpa using h)) hz2
 simp only [List.append_nil] at hf
 have hk:nX (out.map ar.cells)=nX out:=by unfold nX;cases out<;>rfl
 rw [hk] at hf
 by_cases h:i<l.length
 ·have hnn:l.length-i=(l.length-(i+1))+1:=by omega
  rw [hnn,rx] at hord
  have cmp:∀a b:ar,∀base H K,aD Tryz.prog C base (.fn 34 []) [.agg a.cells,.agg b.cells] H K=K (.int .i64 (bZ a.d b.d)) H:=fun a b=>(nG (S.prim _ (by decide)) (S.pure _ (by decide)) a.d b.d a.h b.h).eq
  have f0:=hf 0 5 (Nat.zero_le _)
  have cHas:∀d:ar,∀base K,aD Tryz.prog C base (.fn 7 []) [s 3,.agg d.cells] (H++J) K=K (.bool (bV out d.d)) (H++J):=fun d base K=>(xY S.tocY out (nX out) d (by omega)).eq base (H++J) (by rw [List.append_nil,List.mapM_cons,f0,List.mapM_cons,List.mapM_nil,aq (v:=.agg d.cells) (ar.closed d)];rfl) K
  have cAll:∀x:aC,x.Fit→∀base K,aD Tryz.prog C base (.fn 36 []) [s 3,aw (dw x).1 ((dw x).2.map ar.cells)] (H++J) K=K (.bool (gD out (dw x).2)) (H++J):=fun x hx base K=>(DB S.tocY out (dw x).2 (nX out) (dw x).1 (by omega) (wj hx)).eq base (H++J) (by rw [List.append_nil,List.mapM_cons,f0,List.mapM_cons,List.mapM_nil,aq (cP (aM ar.closed _))];rfl) K
  generalize hV:s 3=V at *
  simp [e0,hlen,hV,h]
  refine az l.length (fun j s' H'=>H'=H++J∧s' 0=aw k (l.map ah.cells)∧s' 3=V∧s' 5=.int .i64 j∧s' 4=.int .i64 (iC l out j)) ?_ ?_
  ·exact ⟨rfl,e0,hV,rfl,rfl⟩
  rintro j s' H' ⟨rfl,e0,e3,e5,e4⟩ hj
  by_cases hjl:j<l.length
  ·have hpf:=hl.p _ (List.getElem_mem hjl)
   have cN:=(wB S.tocY l[j].patch hpf.ok hpf.ok2 hpf.deps hpf.changes hpf.over).eq
   have cA:=cAll _ hpf
   have hps:=my l out j
   have hnext:iC l out (j+1)=if sP l out l[j] (iC l out j) then (j:Int) else iC l out j:=by rw [iC,List.getElem?_eq_getElem hjl]
   generalize hP:iC l out j=P at *
   cases hh:bV out l[j].id.d with
   | true =>
    have hcc:sP l out l[j] P=false:=by unfold sP;rw [hh];rfl
    rw [hcc] at hnext
    simp [e0,e3,e5,e4,hjl,an,cHas,hh,ay hjl (by omega)]
    simpa using hnext.symm
   | false =>
    cases ha:gD out (dw l[j].patch).2 with
    | false =>
     have hcc:sP l out l[j] P=false:=by unfold sP;rw [hh,ha];rfl
     rw [hcc] at hnext
     simp [e0,e3,e5,e4,hjl,an,cHas,hh,cN,cA,ha,ay hjl (by omega)]
     simpa using hnext.symm
    | true =>
     by_cases hP0:P<0
     ·have hcc:sP l out l[j] P=true:=by unfold sP;rw [hh,ha];simp [hP0]
      rw [hcc] at hnext
      simp [e0,e3,e5,e4,hjl,an,cHas,hh,cN,cA,ha,hP0,ay hjl (by omega)]
      simpa using hnext.symm
     ·obtain ⟨q,hq⟩:∃q:Nat,P=(q:Int):=⟨P.toNat,by omega⟩
      subst hq
      have hql:q<l.length:=by omega
      have hcc:sP l out l[j] (q:Int)=decide (bZ l[j].id.d l[q].id.d<0):=by unfold sP;rw [hh,ha];simp [hql,show ¬(q:Int)<0 by omega]
      rw [hcc] at hnext
      by_cases hcm:bZ l[j].id.d l[q].id.d<0
      ·simp [hcm] at hnext
       simp [e0,e3,e5,e4,hjl,hql,an,cHas,hh,cN,cA,ha,hP0,cmp,hcm,ay hjl (by omega)]
       exact hnext.symm
      ·simp [hcm] at hnext
       simp [e0,e3,e5,e4,hjl,hql,an,cHas,hh,cN,cA,ha,hP0,cmp,hcm,ay hjl (by omega)]
       exact hnext.symm
  ·have hj':j=l.length:=by omega
   subst hj'
   have hps:=my l out l.length
   generalize hP:iC l out l.length=P at *
   by_cases hP0:P<0
   ·have hres:rx l l.length []=out:=by
     rw [hord]
     cases l[P.toNat]? with
     | none=>rfl
     | some x=>simp [hP0]
    rw [hres]
    simp [e0,e3,e5,e4,hP0]
    exact hf H.length 2 (Nat.le_refl _)
   ·obtain ⟨q,hq⟩:∃q:Nat,P=(q:Int):=⟨P.toNat,by omega⟩
    subst hq
    have hql:q<l.length:=by omega
    rw [Int.toNat_natCast,List.getElem?_eq_getElem hql] at hord
    simp [hP0] at hord
    obtain ⟨v',J',ha,hg',hs'⟩:=tf (H0:=H) (Z:=H) rfl (Nat.le_refl _) (x:=.lst [l[q].id.cells] true) (ys:=[l[q].id]) hg rfl (by simp;omega)
    simp [e0,e3,e5,e4,hP0,hql,aj,au,ha,show aP.length=32 from rfl]
    exact ⟨h,out++[l[q].id],by simp [ho],by simpa using hg',fun h=>by simp at h,.inr (hs' (.inl (by simp))),hord⟩
 ·have h':i=l.length:=by omega
  have hres:rx l l.length []=out:=by rw [hord,h',Nat.sub_self];rfl
  rw [hres]
  rw [h'] at hlen
  simp [e0,hlen]
  exact hf H.length 2 (Nat.le_refl _)
end Go.Proofs.Ev
namespace Go.Proofs.Ev
open Go.Proofs
variable {C:bG}
def qT (p:aC):List aH:=if bz p=0 then (aR p).map (yo ⟨pM p,lX p,lW p⟩) else []
def Jd (p:aC):SK:=if bz p=0 then nX (aR p) else .exact
theorem Co (S:cm C) (p:aC) (hp:p.Fit):cE Tryz.prog C 207 [] [.agg p.cells] (.tup [aw (Jd p) ((qT p).map aH.cells),.int .i64 (bz p)]):=Ad S p hp.ok hp.ok2 hp.atoms hp.atomOver
def jv (s:List ah) (x:aI):aH:=if x.n<0∨((qT (d3 s x.d)).length:Int)≤x.n then b9 else (qT (d3 s x.d)).getD x.n.toNat b9
def lu (s:List ah) (x:aI):Bool:=!(decide (x.n<0)||decide (((qT (d3 s x.d)).length:Int)≤x.n))
set_option maxHeartbeats 1000000 in
theorem uH (S:cm C) (l:List ah) (k:SK) (x:aI) (hl:mT l):cE Tryz.prog C 133 [] [aw k (l.map ah.cells),.agg x.cells] (.tup [.agg (jv l x).cells,.bool (lu l x)]):=by
 refine aB (S.pure8 _ (by decide)) fun H=>am Tryz.func133 rfl (S.prim _ (by decide)) (by simp) (by kernel_rfl) ?_
 unfold Tryz.f133
 have g:∀base H K,aD Tryz.prog C base (.fn 206 []) [aw k (l.map ah.cells),.agg (Ev.dig x.d)] H K=K (.tup [.agg (d3 l x.d).cells,.bool (jn l x.d)]) H:=(Fr S l k x.dv (by have:=hl.n;omega)).eq
 have a:=(Co S _ (GZ hl x.d)).eq
 generalize hL:qT (d3 l x.d)=L at *
 have hQ:jv l x=if x.n<0∨(L.length:Int)≤x.n then b9 else L.getD x.n.toNat b9:=by unfold jv;rw [hL]
 have hB:lu l x = !(decide (x.n<0)||decide ((L.length:Int)≤x.n)):=by unfold lu;rw [hL]
 rw [hQ,hB]
 by_cases h1:x.n<0
 ·simp [aG,g,a,ao,an,h1,aE]
  exact bN (aq (v:=.agg _) (aH.closed _)) (by simp)
 ·by_cases h2:(L.length:Int)≤x.n
  ·simp [aG,g,a,ao,an,h1,h2,aE]
   exact bN (aq (v:=.agg _) (aH.closed _)) (by simp)
  ·have hlt:x.n.toNat<L.length:=by omega
   have hget:L.getD x.n.toNat b9=L[x.n.toNat]:=by rw [List.getD_eq_getElem?_getD,List.getElem?_eq_getElem hlt];rfl
   rw [if_neg (by omega),hget]
   simp [aG,g,a,ao,an,h1,h2,hlt,show 0≤x.n by omega,show x.n<L.length by omega]
   exact bN (aq (v:=.agg _) (aH.closed _)) (by simp)
theorem wC (S:cm C) (x:aI):cE Tryz.prog C 132 [] [.agg x.cells] (.bool (!bC x.d)):=by
 refine aB (S.pure8 _ (by decide)) fun H=>am Tryz.func132 rfl (S.prim _ (by decide)) (by simp) (by kernel_rfl) ?_
 unfold Tryz.f132
 have e:=lI (rg S.toaA x.d aP x.h (by decide))
 simp [aG,e,aE,bC]
theorem vt (S:cm C) (x:aH):cE Tryz.prog C 135 [] [.agg x.cells] (.bool (x.kind==1&&x.type==4)):=by
 refine aB (S.pure8 _ (by decide)) fun H=>am Tryz.func135 rfl (S.prim _ (by decide)) (by simp) (by kernel_rfl) ?_
 unfold Tryz.f135
 simp +contextual [-Bool.not_and,-Bool.not_or,aG,an]
theorem qy (S:cm C) (x:aI) (d:ar):cE Tryz.prog C 138 [] [.agg x.cells,.agg d.cells] (.agg (ba x d).cells):=by
 refine aB (S.pure8 _ (by decide)) fun H=>am Tryz.func138 rfl (S.prim _ (by decide)) (by simp) (by kernel_rfl) ?_
 unfold Tryz.f138
 have e:=rg S.toaA x.d aP x.h (by decide)
 have hd:(aI.mk d.d x.n d.h d.b).cells=d.cells++[.int .i64 x.n]:=rfl
 by_cases hn:0≤x.n
 ·by_cases hz:x.d=aP
  ·have hw:ba x d=⟨d.d,x.n,d.h,d.b⟩:=by unfold ba;rw [if_pos (by simp [bC,hz,hn])]
   rw [hw]
   have e':=e.trans (congrArg (fun b=>some (AV.bool b)) (decide_eq_true hz))
   simp [aG,e',hn,an,aE,ao,hd]
   rw [←hd]
   generalize aI.mk d.d x.n d.h d.b=y
   first
    | exact aq (v:=.agg y.cells) (aI.closed y)
    | exact ⟨fun v hv=>List.all_eq_true.1 y.leafs v hv,aq (v:=.agg y.cells) (aI.closed y)⟩
    | (simp;exact ⟨fun v hv=>List.all_eq_true.1 y.leafs v hv,aq (v:=.agg y.cells) (aI.closed y)⟩)
    | trace_state
  ·have hw:ba x d=x:=by unfold ba;rw [if_neg (by simp [bC,hz])]
   rw [hw]
   simp [aG,e,hn,hz,an,aE,ao]
   exact aq (v:=.agg x.cells) (aI.closed x)
 ·have hw:ba x d=x:=by unfold ba;rw [if_neg (by simp [hn])]
  rw [hw]
  simp [aG,e,hn,an,aE,ao]
  exact aq (v:=.agg x.cells) (aI.closed x)
def vi (s:List ah) (x file:aI) (d:ar):Int:=if bC x.d||aF x file then 0 else if lu s x=false then 7 else if ng (ba file d) (jv s x)=false then 8 else 0
set_option maxHeartbeats 1000000 in
theorem Kt (S:cm C) (l:List ah) (k:SK) (x file:aI) (d:ar) (hl:mT l):cE Tryz.prog C 136 [] [aw k (l.map ah.cells),.agg x.cells,.agg file.cells,.agg d.cells] (.int .i64 (vi l x file d)):=by
 refine aB (S.pure8 _ (by decide)) fun H=>am Tryz.func136 rfl (S.prim _ (by decide)) (by simp) (by kernel_rfl) ?_
 unfold Tryz.f136
 have e:=jk S.toaA
 have c1:=(wC S x).eq
 have c2:=(uH S l k x hl).eq
 have c3:=(qy S file d).eq
 have c4:=fun f a=>(sq S.toaA f a).eq
 unfold vi
 generalize jv l x=Q at *
 generalize lu l x=B at *
 generalize ba file d=W at *
 cases hz:bC x.d with
 | true=>simp [aG,c1,hz,an]
 | false =>
  cases hs:aF x file with
  | true=>simp [aG,c1,hz,an,e,hs]
  | false =>
   cases B with
   | false=>simp [aG,c1,hz,an,e,hs,c2,ao]
   | true =>
    cases hf:ng W Q with
    | false=>simp [aG,c1,hz,an,e,hs,c2,c3,c4,hf,ao]
    | true=>simp [aG,c1,hz,an,e,hs,c2,c3,c4,hf,ao]
def nz (s:List ah) (c:aW) (d:ar):List aI→Int
 | []=>0
 | x::l=>if bC x.d then nz s c d l else if lu s x=false then 7 else if dI c.kind (ba c.file d) (jv s x)=false then 8 else nz s c d l
def tE (s:List ah) (c:aW):Int:=if bC c.file.d then 0 else if lu s c.file=false then 7 else if jX c.kind (jv s c.file)=false then 8 else 0
def tF (s:List ah) (c:aW):Int:=if bC c.parent.d then 0 else if lu s c.parent=false then 7 else if ((jv s c.parent).kind==1&&(jv s c.parent).type==4)=false then 8 else 0
def dz (s:List ah) (c:aW) (d:ar):Int:=if tE s c≠0 then tE s c else if tF s c≠0 then tF s c else if vi s c.after c.file d≠0 then vi s c.after c.file d else if vi s c.before c.file d≠0 then vi s c.before c.file d else nz s c d c.over
set_option maxRecDepth 100000 in
set_option maxHeartbeats 4000000 in
theorem xV (S:cm C) (l:List ah) (k:SK) (c:aW) (d:ar) (hl:mT l) (hc:c.over.length≤400):cE Tryz.prog C 77 [] [aw k (l.map ah.cells),.agg c.cells,.agg d.cells] (.int .i64 (dz l c d)):=by
 refine aB (S.pure8 _ (by decide)) fun H=>am Tryz.func77 rfl (S.prim _ (by decide)) (by simp) (by kernel_rfl) ?_
 unfold Tryz.f77
 have c1:=fun x=>(wC S x).eq
 have c2:=fun x=>(uH S l k x hl).eq
 have c3:=fun x=>(qy S x d).eq
 have c4:=fun kd a=>(qz S.toaA kd a).eq
 have c5:=fun a=>(vt S a).eq
 have c6:=fun x=>(Kt S l k x c.file d hl).eq
 have c7:=fun kd f a=>(qA S.toaA kd f a).eq
 refine cut (fun s H'=>s 0=aw k (l.map ah.cells)∧s 4=.ptr H.length 0 139 0 0∧s 5=.ptr (H.length+1) 0 32 0 0∧∃J,H'=H++.rows 139 0 [c.cells]::.rows 32 0 [d.cells]::J) ?_ ?_
 ·simp [aG]
 rintro s H' ⟨e0,e4,e5,J,rfl⟩
 refine cut (fun s H'=>tE l c=0∧s 0=aw k (l.map ah.cells)∧s 4=.ptr H.length 0 139 0 0∧s 5=.ptr (H.length+1) 0 32 0 0∧∃J,H'=H++.rows 139 0 [c.cells]::.rows 32 0 [d.cells]::J) ?_ ?_
 ·cases hz:bC c.file.d with
  | true =>
   have hE:tE l c=0:=by unfold tE;rw [if_pos hz]
   simp [e0,e4,e5,c1,hz,hE]
  | false =>
   cases hb:lu l c.file with
   | false =>
    have hE:tE l c=7:=by unfold tE;simp [hz,hb]
    have hE2:dz l c d=7:=by unfold dz;simp [hE]
    simp [e0,e4,e5,c1,hz,c2,hb,ao,hE2]
   | true =>
    cases hf:jX c.kind (jv l c.file) with
    | false =>
     have hE:tE l c=8:=by unfold tE;simp [hz,hb,hf]
     have hE2:dz l c d=8:=by unfold dz;simp [hE]
     simp [e0,e4,e5,c1,hz,c2,hb,ao,c4,hf,hE2]
    | true =>
     have hE:tE l c=0:=by unfold tE;simp [hz,hb,hf]
     simp [e0,e4,e5,c1,hz,c2,hb,ao,c4,hf,hE]
 clear e0 e4 e5
 rintro s H' ⟨h1,e0,e4,e5,J,rfl⟩
 refine cut (fun s H'=>tF l c=0∧s 0=aw k (l.map ah.cells)∧s 4=.ptr H.length 0 139 0 0∧s 5=.ptr (H.length+1) 0 32 0 0∧∃J,H'=H++.rows 139 0 [c.cells]::.rows 32 0 [d.cells]::J) ?_ ?_
 ·cases hz:bC c.parent.d with
  | true =>
   have hE:tF l c=0:=by unfold tF;rw [if_pos hz]
   simp [e0,e4,e5,c1,hz,hE]
  | false =>
   cases hb:lu l c.parent with
   | false =>
    have hE:tF l c=7:=by unfold tF;simp [hz,hb]
    have hE2:dz l c d=7:=by unfold dz;simp [hE,h1]
    simp [e0,e4,e5,c1,hz,c2,hb,ao,hE2]
   | true =>
    cases hf:((jv l c.parent).kind==1&&(jv l c.parent).type==4) with
    | false =>
     have hE:tF l c=8:=by unfold tF;rw [if_neg (by simp [hz]),if_neg (by simp [hb]),if_pos hf]
     have hE2:dz l c d=8:=by unfold dz;simp [hE,h1]
     simp [e0,e4,e5,c1,hz,c2,hb,ao,c5,hf,hE2]
    | true =>
     have hE:tF l c=0:=by unfold tF;rw [if_neg (by simp [hz]),if_neg (by simp [hb]),if_neg (by simp [hf])]
     simp [e0,e4,e5,c1,hz,c2,hb,ao,c5,hf,hE]
 clear e0 e4 e5
 rintro s H' ⟨h2,e0,e4,e5,J,rfl⟩
 by_cases h3:vi l c.after c.file d=0
 ·by_cases h4:vi l c.before c.file d=0
  ·have hE:dz l c d=nz l c d c.over:=by unfold dz;simp [h1,h2,h3,h4]
   rw [hE]
   simp [e0,e4,e5,c6,h3,h4]
   refine az c.over.length (fun i s H'=>s 0=aw k (l.map ah.cells)∧s 4=.ptr H.length 0 139 0 0∧s 5=.ptr (H.length+1) 0 32 0 0∧(∃J,H'=H++.rows 139 0 [c.cells]::.rows 32 0 [d.cells]::J)∧s 13=.int .i64 i∧nz l c d c.over=nz l c d (c.over.drop i)) ?_ ?_
   ·exact ⟨e0,e4,e5,⟨J,rfl⟩,rfl,rfl⟩
   clear e0 e4 e5
   rintro i s H' ⟨e0,e4,e5,⟨J,rfl⟩,e13,hv⟩ hi
   by_cases h:i<c.over.length
   ·rw [List.drop_eq_getElem_cons h,nz] at hv
    cases hz:bC c.over[i].d with
    | true =>
     rw [if_pos hz] at hv
     simp [e0,e4,e5,e13,h,c1,hz,ay h (by omega)]
     exact hv
    | false =>
     rw [if_neg (by simp [hz])] at hv
     cases hb:lu l c.over[i] with
     | false =>
      rw [if_pos hb] at hv
      simp [e0,e4,e5,e13,h,c1,hz,c2,hb,ao,hv]
     | true =>
      rw [if_neg (by simp [hb])] at hv
      cases hf:dI c.kind (ba c.file d) (jv l c.over[i]) with
      | false =>
       rw [if_pos hf] at hv
       simp [e0,e4,e5,e13,h,c1,hz,c2,hb,ao,c3,c7,hf,hv]
      | true =>
       rw [if_neg (by simp [hf])] at hv
       simp [e0,e4,e5,e13,h,c1,hz,c2,hb,ao,c3,c7,hf,ay h (by omega)]
       exact hv
   ·have h':i=c.over.length:=by omega
    subst h'
    rw [List.drop_length,nz] at hv
    simp [e0,e4,e5,e13,hv]
  ·have hE:dz l c d=vi l c.before c.file d:=by unfold dz;simp [h1,h2,h3,h4]
   rw [hE]
   simp [e0,e4,e5,c6,h3,h4]
 ·have hE:dz l c d=vi l c.after c.file d:=by unfold dz;simp [h1,h2,h3]
  rw [hE]
  simp [e0,e4,e5,c6,h3]
def mG (s:List ah) (d:ar):List aW→Int
 | []=>0
 | c::l=>if dz s c d≠0 then dz s c d else mG s d l
theorem CE (S:cm C) (l:List ah) (k:SK) (p:aC) (d:ar) (hl:mT l) (hp:p.Fit):cE Tryz.prog C 39 [] [aw k (l.map ah.cells),.agg p.cells,.agg d.cells] (.int .i64 (mG l d p.changes)):=by
 refine aB (S.pure8 _ (by decide)) fun H=>am Tryz.func39 rfl (S.prim _ (by decide)) (by simp) (by kernel_rfl) ?_
 unfold Tryz.f39
 have hcn:=hp.changes
 simp [aG]
 refine az p.changes.length (fun i s H'=>s 0=aw k (l.map ah.cells)∧s 4=.ptr H.length 0 5 0 0∧s 5=.ptr (H.length+1) 0 32 0 0∧H'=H++[.rows 5 0 [p.cells],.rows 32 0 [d.cells]]∧s 7=.int .i64 i∧mG l d p.changes=mG l d (p.changes.drop i)) ?_ ?_
 ·exact ⟨rfl,rfl,rfl,rfl,rfl,rfl⟩
 rintro i s H' ⟨e0,e4,e5,rfl,e7,hv⟩ hi
 by_cases h:i<p.changes.length
 ·rw [List.drop_eq_getElem_cons h,mG] at hv
  have c1:=(xV S l k p.changes[i] d hl (hp.over _ (List.getElem_mem h))).eq
  by_cases h0:dz l p.changes[i] d=0
  ·rw [if_neg (by simpa using h0)] at hv
   simp [e0,e4,e5,e7,h,c1,h0,ay h (by omega)]
   exact hv
  ·rw [if_pos h0] at hv
   simp [e0,e4,e5,e7,h,c1,h0,hv]
 ·have h':i=p.changes.length:=by omega
  subst h'
  rw [List.drop_length,mG] at hv
  simp [e0,e4,e5,e7,hv]
def sH (p:Option ar):List ah→Int
 | []=>0
 | x::l=>if bz x.patch≠0 then bz x.patch else if pM x.patch≠x.id.d then 13 else if (match p with | none=>false | some y=>decide (0≤bZ y.d (pM x.patch)))=true then 9 else sH (some x.id) l
theorem qW (p:Option ar) (x:ah) (l:List ah):sH p (x::l)=if bz x.patch≠0 then bz x.patch else if pM x.patch≠x.id.d then 13 else if (match p with | none=>false | some y=>decide (0≤bZ y.d (pM x.patch)))=true then 9 else sH (some x.id) l:=by cases p<;>rfl
def Be (ids:List ar):List ah→Int
 | []=>0
 | x::l=>if gD ids (dw x.patch).2=false then 19 else Be ids l
def oX (s:List ah):List ah→Int
 | []=>0
 | x::l=>if mG s x.id x.patch.changes≠0 then mG s x.id x.patch.changes else oX s l
def oY (s:List ah):Int:=if sH none s≠0 then sH none s else if Be (s.map fun x=>x.id) s≠0 then Be (s.map fun x=>x.id) s else if (rx s s.length []).length<s.length then 20 else oX s s
def sm (l:List ah):Nat→Option ar
 | 0=>none
 | k+1=>(l[k]?).map fun x=>x.id
set_option maxRecDepth 100000 in
set_option maxHeartbeats 4000000 in
theorem Af (S:cm C) (l:List ah) (k:SK) (hl:mT l):cE Tryz.prog C 13 [] [aw k (l.map ah.cells)] (.int .i64 (oY l)):=by
 refine aB (S.pure8 _ (by decide)) fun H=>am Tryz.func13 rfl (S.prim _ (by decide)) (by simp) (by kernel_rfl) ?_
 unfold Tryz.f13
 have hn:=hl.n
 have cmp:∀a b:ar,∀base H K,aD Tryz.prog C base (.fn 34 []) [.agg a.cells,.agg b.cells] H K=K (.int .i64 (bZ a.d b.d)) H:=fun a b=>(nG (S.prim _ (by decide)) (S.pure _ (by decide)) a.d b.d a.h b.h).eq
 have eqd:=fun a b=>lI (mj S.toaA a b)
 have cids:=(Kw S l k (by omega)).eq
 have cord:=(As S l k hl).eq
 simp [aG,show ¬(400:Int)<l.length by omega]
 refine az l.length (fun i s H'=>s 0=aw k (l.map ah.cells)∧(∃J,H'=H++J)∧s 3=.int .i64 i∧sH none l=sH (sm l i) (l.drop i)) ?_ ?_
 ·exact ⟨rfl,⟨[],by simp⟩,rfl,rfl⟩
 rintro i s H' ⟨e0,⟨J,rfl⟩,e3,hv⟩ hi
 by_cases h:i<l.length
 ·have hpf:=hl.p _ (List.getElem_mem h)
  have cid:∀base H K,aD Tryz.prog C base (.fn 33 []) [.agg l[i].patch.cells] H K=K (.tup [.agg (ar.mk (pM l[i].patch) (lX _) (lW _)).cells,.int .i64 (bz l[i].patch)]) H:=(Aj S.tod7 l[i].patch hpf.ok hpf.ok2).eq
  rw [List.drop_eq_getElem_cons h,qW] at hv
  obtain ⟨D,hD⟩:∃D,D=ar.mk (pM l[i].patch) (lX _) (lW _):=⟨_,rfl⟩
  have hDd:pM l[i].patch=D.d:=by rw [hD]
  rw [←hD] at cid
  rw [hDd] at hv
  clear hD
  by_cases hE:bz l[i].patch=0
  ·rw [if_neg (by simpa using hE)] at hv
   by_cases hd:D.d=l[i].id.d
   ·rw [if_neg (by simpa using hd)] at hv
    cases i with
    | zero =>
     simp only [sm] at hv
     simp [e0,e3,h,cid,hE,ao,eqd,hd,an,show aP.length=32 from rfl,List.drop_of_length_le]
     refine ⟨rfl,?_⟩
     simp only [Bool.false_eq_true,if_false] at hv
     rw [hv];simp [sm,List.getElem?_eq_getElem h]
    | succ i =>
     have hi1:i<l.length:=by omega
     have hpv:sm l (i+1)=some l[i].id:=by simp [sm,List.getElem?_eq_getElem hi1]
     have hpv2:sm l (i+1+1)=some l[i+1].id:=by simp [sm,List.getElem?_eq_getElem h]
     rw [hpv] at hv
     simp only [decide_eq_true_eq] at hv
     have w1:IntKind.i64.wrap (i:Int)=i:=gy (by omega)
     have w2:IntKind.i64.wrap ((i:Int)+1+1)=(i:Int)+1+1:=aK (by omega) (by omega)
     have t1:((i:Int)+1).toNat=i+1:=by omega
     have k1:(0:Int)≤(i:Int)+1∧(i:Int)+1<l.length∧(0:Int)<(i:Int)+1:=by omega
     by_cases hc:0≤bZ l[i].id.d D.d
     ·rw [if_pos hc] at hv
      have hres:oY l=9:=by unfold oY;rw [hv];rfl
      have hc':=hc
      rw [hd] at hc'
      simp [e0,e3,h,hi1,cid,hE,ao,eqd,hd,an,show aP.length=32 from rfl,List.drop_of_length_le,w1,t1,k1,cmp,hc',hres]
     ·rw [if_neg hc] at hv
      have hc':=hc
      rw [hd] at hc'
      simp [e0,e3,h,hi1,cid,hE,ao,eqd,hd,an,show aP.length=32 from rfl,List.drop_of_length_le,w1,w2,t1,k1,cmp,hc']
      rw [hv,hpv2]
   ·rw [if_pos hd] at hv
    have hres:oY l=13:=by unfold oY;rw [hv];rfl
    simp [e0,e3,h,cid,hE,ao,eqd,hd,an,show aP.length=32 from rfl,List.drop_of_length_le,hres]
  ·rw [if_pos hE] at hv
   have hres:oY l=bz l[i].patch:=by unfold oY;rw [hv,if_pos hE]
   simp [e0,e3,h,cid,hE,ao,show aP.length=32 from rfl,hres]
 have h':i=l.length:=by omega
 subst h'
 rw [List.drop_length] at hv
 have h1:sH none l=0:=by rw [hv];unfold sH;cases sm l l.length<;>rfl
 clear hv
 simp [e0,e3,cids]
 refine az l.length (fun i s H'=>s 0=aw k (l.map ah.cells)∧(∃J,H'=H++J)∧s 6=aw (nX l) ((l.map fun x=>x.id).map ar.cells)∧s 7=.int .i64 i∧Be (l.map fun x=>x.id) l=Be (l.map fun x=>x.id) (l.drop i)) ?_ ?_
 ·exact ⟨e0,⟨J,rfl⟩,by simp,rfl,rfl⟩
 clear e0 e3
 rintro i s H' ⟨e0,⟨J,rfl⟩,e6,e7,hv⟩ hi
 by_cases h:i<l.length
 ·have hpf:=hl.p _ (List.getElem_mem h)
  rw [List.drop_eq_getElem_cons h,Be] at hv
  have cN:=(wB S.tocY l[i].patch hpf.ok hpf.ok2 hpf.deps hpf.changes hpf.over).eq
  have cA:=((DB S.tocY (l.map fun x=>x.id) (dw l[i].patch).2 (nX l) (dw l[i].patch).1 (by simp;omega) (wj hpf)).ret (by simp only [AV.closeds,AV.closed,cP (aM ar.closed _),Bool.and_self])).eq
  cases ha:gD (l.map fun x=>x.id) (dw l[i].patch).2 with
  | false =>
   rw [if_pos ha] at hv
   have hres:oY l=19:=by unfold oY;rw [if_neg (by simpa using h1),hv];rfl
   simp [e0,e7,h,cN,hres]
   rw [e6,cA,ha]
   simp [hres]
  | true =>
   rw [if_neg (by simp [ha])] at hv
   simp [e0,e7,h,cN]
   rw [e6,cA,ha]
   simp [e0,e6,e7,ay h (by omega)]
   exact ⟨h,hv⟩
 have h':i=l.length:=by omega
 subst h'
 rw [List.drop_length,Be] at hv
 have h2:=hv
 clear hv
 have hE1:oY l=if (rx l l.length []).length<l.length then 20 else oX l l:=by unfold oY;rw [if_neg (by simpa using h1),if_neg (by simpa using h2)]
 by_cases h3:(rx l l.length []).length<l.length
 ·rw [if_pos h3] at hE1
  simp [e0,e7,cord,h3,hE1]
 rw [if_neg h3] at hE1
 simp [e0,e7,cord,h3]
 refine az l.length (fun i s H'=>s 0=aw k (l.map ah.cells)∧(∃J,H'=H++J)∧s 8=.int .i64 i∧oX l l=oX l (l.drop i)) ?_ ?_
 ·exact ⟨e0,⟨J,rfl⟩,rfl,rfl⟩
 clear e0 e6 e7
 rintro i s H' ⟨e0,⟨J,rfl⟩,e8,hv⟩ hi
 by_cases h:i<l.length
 ·have hpf:=hl.p _ (List.getElem_mem h)
  rw [List.drop_eq_getElem_cons h,oX] at hv
  have cR:=(CE S l k l[i].patch l[i].id hl hpf).eq
  by_cases h0:mG l l[i].id l[i].patch.changes=0
  ·rw [if_neg (by simpa using h0)] at hv
   simp [e0,e8,h,cR,h0,ay h (by omega)]
   exact hv
  ·rw [if_pos h0] at hv
   simp [e0,e8,h,cR,h0,hE1,hv]
 ·have h':i=l.length:=by omega
  subst h'
  rw [List.drop_length,oX] at hv
  simp [e0,e8,hE1,hv]
def nd (s:List ah):Bool:=!ko s&&(oY s==0)
theorem HT (S:cm C) (l:List ah) (k:SK) (hl:om l):cE Tryz.prog C 4 [] [aw k (l.map ah.cells)] (.bool (nd l)):=by
 refine aB (S.pure8 _ (by decide)) fun H=>am Tryz.func4 rfl (S.prim _ (by decide)) (by simp) (by kernel_rfl) ?_
 unfold Tryz.f4
 have c1:=(Ao S l k hl).eq
 cases hh:ko l with
 | true=>simp [aG,c1,hh,an,nd]
 | false =>
  have c2:=(Af S l k (wF hl hh)).eq
  simp [aG,c1,hh,an,nd,c2]
end Go.Proofs.Ev
