/- Part 13 of the proof that quiltlaw38.BlameTouching returns true: no statement of its own. -/
import Derived.Test.YtbpaeodbnleoaaaGreatDoorT5
set_option linter.all false
namespace Go.Proofs.Ev
open Go.RowKit
variable {P:Program} {C:bG} {N:gA} {φ φ':fE} {H H':ag} {w w':World} {n:Nat}
theorem xA {fn:Func} {tmps:Array Value} {R:Ending→World→Prop} {B:Nat}:∀{ds:List Deferred} {w:World},fj B φ w ds→HR N φ H w→
 (∀w2,HR N φ H w2→mL φ H.length w φ H.length w2∧fi w w2→w2.heap.size=w.heap.size→(∀cb,cb<B→w2.heap[cb]?=w.heap[cb]?)→(∀(cb:Nat) (r:Loop),w.heap[cb]?=some (Obj.loop r)→w2.heap[cb]?=some (Obj.loop r))→∃v,(results fn tmps).run P w2=.ok v w2∧R (.returned v) w2)→
 LeavesInM (Fw none) 0 P fn tmps R ds .returning w:=by
 intro ds
 induction ds with
 | nil =>
  intro w _ hH hfin
  exact hfin w hH ⟨⟨Nat.le_refl _,Nat.le_refl _,fun _ _ L' h=>⟨L',h,Nat.le_refl _,fun _=>rfl⟩,fun _ _ _ _ h _=>h,fun _ _ h=>h⟩,.refl⟩ rfl (fun _ _=>rfl) (fun _ _ h=>h)
 | cons d ds ih =>
  intro w hm hH hfin
  cases hm with
  | cons hB hk hn hne h =>
   rename_i k
   refine ⟨by simp,.inl ⟨k,bE w k (.deferred none),rfl,run_takeDeferred hk,?_⟩⟩
   have hc:∀c T fr,Obj.deferred (some [])≠.cells c T fr:=by intro c T fr e;cases e
   have hx:mL φ H.length w φ H.length (bE w k (.deferred none)):=mL.putObj hk hc
   refine ih (h.put hne) (hH.putObj hk hc hn) fun w2 h1 ⟨h2,henv⟩ h3 h4 h5=>?_
   refine hfin w2 h1 ⟨⟨Nat.le_refl _,Nat.le_trans hx.size h2.size,fun b _ L' hL=>⟨L',hL,Nat.le_refl _,fun _=>rfl⟩,fun cb c T fr e e'=>h2.same cb c T fr (hx.same cb c T fr e e') e',fun _ _ e=>e⟩,henv⟩ (by rw [h3];simp) (fun cb hcb=>(h4 cb hcb).trans (bq (by omega))) (fun cb r e=>h5 cb r ((bq ?_).trans e))
   intro e2
   subst e2
   rw [hk] at e
   cases e
theorem FJ {args:List AV} {Vs:Array Value} (h:kN (fun v V=>RV φ n w v V) args Vs.toList) (m:Nat) :
 bM φ n w (args++List.replicate (m-args.length) (.tup [])) (Vs++Array.replicate (m-Vs.size) Go.undef):=by
 have hg:=h.get
 have hl:args.length=Vs.size:=by simpa using hg.1
 refine ⟨by simp [hl],fun t v ht=>?_⟩
 rcases Nat.lt_or_ge t args.length with h1 | h1
 ·rw [List.getElem?_append_left h1] at ht
  obtain ⟨V,h2,h3⟩:=hg.2 t v ht
  exact ⟨V,by rw [Array.getElem?_append_left (by omega)];simpa using h2,h3⟩
 ·rw [List.getElem?_append_right h1,List.getElem?_replicate] at ht
  split at ht
  ·rename_i h2
   cases ht
   refine ⟨Go.undef,?_,.tup rfl (fun j v V hj=>by simp at hj)⟩
   rw [Array.getElem?_append_right (by omega),Array.getElem?_replicate,if_pos (by omega)]
  ·cases ht
theorem tP (hS:C.Sound P N) {f:FuncId} {fn:Func} (hf:P.funcs[f]?=some fn) (hb:fn.body.isSome=true) (args:Array Value) (w:World):(callFunc f args).run P w=.ok (.enter f args) w:=by
 have h1:=hS.names f fn hf hb
 have h2:fn.body.isNone=false:=by cases h:fn.body<;>simp [h] at hb ⊢
 unfold callFunc
 simp only [Sem.run_bind,run_program,Result.andThen_ok,hf,h1,h2,Bool.false_eq_true,if_false,Sem.run_pure]
theorem JA {k:Nat} (hS:C.Sound P N) (hcode:qN P C N k):wP P C N (k+1):=by
 intro base f args H v H' h
 simp only [cD] at h
 cases hp:C.prim f with
 | some p =>
  rw [hp] at h
  obtain ⟨⟨fn,hf,hb⟩,h2⟩:=hS.prim f p hp
  refine ⟨tP hS hf hb,fun {φ w Vs} hbase hH hargs=>?_⟩
  exact h2 base args H v H' h φ w Vs hbase hH hargs
 | none =>
  rw [hp] at h
  simp only at h
  split at h
  ·rename_i fn hf
   split at h
   ·rename_i c hc
    refine ⟨tP hS hf (by rw [hc];rfl),fun {φ w Vs} hbase hH hargs=>?_⟩
    have hsl:=FJ hargs fn.ntmps
    have fin:∀(e:jG) (s':List AV) (H1:ag),(e=.normal∨e=.ret)→aV P C k base c (args++List.replicate (fn.ntmps-args.length) (.tup [])) H=some (e,s',H1)→(dR P H1 s' fn.results.toList).map (fun vs=>(ja vs,H1))=some (v,H')→
     CallsIn (Fw none) 0 P f Vs w fun e w'=>∃V φ',e=.returned V∧RV φ' H'.length w' v V∧HR N φ' H' w'∧cj φ H.length w φ' H'.length w'∧∀b,b<base→H'[b]?=H[b]?:=by
     intro e s' H1 he hrun hres
     obtain ⟨vs,hvs,hpk⟩:=Option.map_eq_some_iff.1 hres
     cases hpk
     refine callsIn_of_wp_marks hf hc trivial ?_
     refine hcode base c _ H e s' H' hrun (a:={ tmps:=Vs++Array.replicate (fn.ntmps-Vs.size) Go.undef,defers:=[] }) (B:=w.heap.size) (r:=none) hbase hH hsl .nil (Nat.le_refl _) (fun l hl=>by cases hl) _ ?_
     intro a' w' φ' h1 hx hs hm hlow
     have key:LeavesInM (Fw none) 0 P fn a'.tmps (fun e w'=>∃V φ',e=.returned V∧RV φ' H'.length w' (ja vs) V∧HR N φ' H' w'∧cj φ H.length w φ' H'.length w'∧∀b,b<base→H'[b]?=H[b]?) a'.defers .returning w':=by
      refine xA hm h1 fun w2 g1 ⟨g2,ge⟩ g3 g4 g5=>?_
      obtain ⟨V,r1,r2⟩:=vo (fn:=fn) g1 (hs.monoC g2) hvs
      refine ⟨V,r1,V,φ',rfl,r2,g1,⟨hx.le,by rw [g3];exact hx.size,hx.loc,fun cb o hc hn=>?_,hx.nolive,fun cb r hr=>?_,hx.res,fun cb o hr hc=>?_,hx.env.trans ge⟩,hlow⟩
      ·rw [g4 cb (Array.getElem?_eq_some_iff.1 hc).1];exact hx.same cb o hc hn
      ·obtain ⟨r',hr'⟩:=hx.loops cb r hr
       exact ⟨r',g5 cb r' hr'⟩
      ·rw [g4 cb (Array.getElem?_eq_some_iff.1 hc).1];exact hx.keep cb o hr hc
     rcases he with rfl | rfl
     ·exact key
     ·exact key
    split at h
    ·rename_i s' H1 hrun;exact fin .normal s' H1 (.inl rfl) hrun h
    ·rename_i s' H1 hrun;exact fin .ret s' H1 (.inr rfl) hrun h
    ·cases h
   ·cases h
  ·cases h
theorem HR.empty (h:HR N φ H w):HR N (cI φ 0) [] w:={
 low:=h.low
 kept:=fun cb c T fr hc=>by
  obtain ⟨h1,h2⟩:=h.kept cb c T fr hc
  exact ⟨h1,fun b L hL=>by simp [cI] at hL,h2.2⟩
 dead b _:=by simp [cI]
 base b L hL:=by simp [cI] at hL
 inj b b' L L' hL:=by simp [cI] at hL
 resn b L hL:=by simp [cI] at hL
 ress:=h.ress
 rows b esz g rs hb:=by simp at hb
 map b es hb:=by simp at hb
 loop b r p s ps a c hb:=by simp at hb
 it b m k st hb:=by simp at hb }
theorem mJ:∀{ps:List Tmp} {args:List AV} {Vs:List Value} {slots:List AV} {tmps:Array Value},kN (fun v V=>RV φ n w v V) args Vs→bM φ n w slots tmps→
 bM φ n w (dJ ps args slots) ((ps.zip Vs).foldl (fun t (p,v)=>t.setIfInBounds p v) tmps)
 | [],args,Vs,slots,tmps,_,hs=>by simpa [dJ] using hs
 | p::ps,[],Vs,slots,tmps,h,hs=>by cases h;simpa [dJ] using hs
 | p::ps,v::args,Vs,slots,tmps,h,hs=>by
  cases h with
  | cons h1 h2 =>
   simp only [dJ,List.zip_cons_cons,List.foldl_cons]
   exact mJ h2 (wv (a:={ tmps:=tmps,defers:=[] }) (dst:=some p) hs h1)
theorem Jh {k:Nat} (hfunc:wP P C N k) (hcode:qN P C N k):AR P C N (k+1):=by
 intro base f args H v H' h φ w a r F Vs hbase hH hF hargs o next Q hn
 unfold dp at h
 split at h
 ·rename_i f caps
  cases hF with
  | fn hl hcaps =>
   rename_i Cs
   have hall:kN (fun v V=>RV φ H.length w v V) (args++caps) (Vs++Cs).toList:=by
    have h1:=hargs.get
    refine kN.of_get (by simp [h1.1,hl]) fun i x y hx hy=>?_
    rw [Array.toList_append] at hy
    rcases Nat.lt_or_ge i args.length with hlt | hge
    ·rw [List.getElem?_append_left hlt] at hx
     rw [List.getElem?_append_left (by rw [←h1.1];exact hlt)] at hy
     obtain ⟨V,h2,h3⟩:=h1.2 i x hx
     rw [h2] at hy;cases hy;exact h3
    ·rw [List.getElem?_append_right hge] at hx
     rw [List.getElem?_append_right (by rw [←h1.1];exact hge),←h1.1] at hy
     exact hcaps _ x y hx (by simpa using hy)
   have hinv:∀(he:∀args w,(callFunc f args).run P w=.ok (.enter f args) w),(do let d ←Deferred.ofValue (.func (.func f) #[] Cs) Vs;invoke d.target d.args:Sem Next).run P w=.ok (.enter f (Vs++Cs)) w:=by
    intro he
    simp [Deferred.ofValue,invoke,he]
   split at h
   ·cases hf:cD P C k H.length f (args++caps) H with
    | none=>rw [hf] at h;cases h
    | some vh =>
     obtain ⟨v1,H1⟩:=vh
     rw [hf] at h
     simp only at h
     cases hfr:aJ H1 H.length 3 v1 with
     | none=>rw [hfr] at h;cases h
     | some v2 =>
      rw [hfr] at h;cases h
      obtain ⟨he,hc⟩:=hfunc H.length f _ H v1 H1 hf
      rw [hinv he]
      refine ⟨fun hd=>by simp [Fw,Fence.wide] at hd,jx ((hc (Nat.le_refl _) hH hall).mono ?_)⟩
      rintro e w' ⟨V,φ',rfl,hv,h1,hx,hlow⟩
      exact hn V w' (cI φ' H.length) (eU h1 3 hfr hv) (hH.cut h1 hlow) hx.cut (fun _ _=>rfl)
   ·split at h
    ·cases ha:(args++caps).mapM (aJ H 0 6) with
     | none=>rw [ha] at h;cases h
     | some aS =>
      rw [ha] at h
      simp only at h
      cases hf:cD P C k 0 f aS [] with
      | none=>rw [hf] at h;cases h
      | some vh =>
       obtain ⟨v1,H1⟩:=vh
       rw [hf] at h
       simp only at h
       split at h
       ·rename_i hfl
        cases h
        obtain ⟨he,hc⟩:=hfunc 0 f aS [] _ _ hf
        rw [hinv he]
        obtain ⟨ml,mg⟩:=iS ha
        have hall0:kN (fun v V=>RV (cI φ 0) 0 w v V) aS (Vs++Cs).toList:=by
         have h1:=hall.get
         refine kN.of_get (by rw [ml];exact h1.1) fun i x y hx hy=>?_
         obtain ⟨u,hu,hfu⟩:=mg i x hx
         obtain ⟨V,h2,h3⟩:=h1.2 i u hu
         rw [h2] at hy;cases hy
         exact eU hH 6 hfu h3
        refine ⟨fun hd=>by simp [Fw,Fence.wide] at hd,jx ((hc (Nat.le_refl _) hH.empty hall0).mono ?_)⟩
        rintro e w' ⟨V,φ',rfl,hv,h1,hx,hlow⟩
        have pres:∀(cb:Nat) (o:Obj),w.heap[cb]?=some o→w'.heap[cb]?=some o:=by
         intro cb o ho
         by_cases hr:φ.res cb
         ·exact hx.keep cb o hr ho
         ·exact hx.same cb o ho ⟨fun b L hL=>by simp [cI] at hL,hr⟩
        have hx2:cj φ H.length w φ H.length w' :=
         ⟨Nat.le_refl _,hx.size,fun _ _ L' h=>⟨L',h,Nat.le_refl _,fun _=>rfl⟩,fun cb o hc _=>pres cb o hc,fun _ _ h=>h,fun cb r h=>⟨r,pres cb _ h⟩,rfl,fun cb o _ h=>pres cb o h,hx.env⟩
        refine hn V w' φ (hv.flat hfl) (hH.later hx2 fun b L hL=>?_) hx2 (fun _ _=>rfl)
        have hlt:=(hH.base b L hL).2
        rw [Array.getElem?_eq_getElem hlt,pres L.cb _ (Array.getElem?_eq_getElem hlt)]
       ·cases h
    ·obtain ⟨he,hc⟩:=hfunc base f _ H v H' h
     rw [hinv he]
     refine ⟨fun hd=>by simp [Fw,Fence.wide] at hd,jx ((hc hbase hH hall).mono ?_)⟩
     rintro e w' ⟨V,φ',rfl,hv,h1,hx,hlow⟩
     exact hn V w' φ' hv h1 hx hlow
 ·rename_i b
  split at h
  ·rename_i slots ps assign body hblk
   split at h
   ·rename_i hc
    obtain ⟨hb0,hpl⟩:=hc
    obtain ⟨L,rec,h1,h2,h3,h4,h5,h6,h7,h8,h9⟩:=hH.loop _ _ _ _ _ _ _ hblk
    cases hF with
    | yld hb hh =>
     have:=hh L h1 h2
     subst this
     have hsz:Vs.size=rec.params.size:=by
      have e1:=hargs.get.1
      have e2:rec.params.size=ps.length:=by rw [←h6];simp
      rw [e2,←hpl,e1];simp
     have hrun:(do let d ←Deferred.ofValue (.func (.yield L.cb) #[] #[]) Vs;invoke d.target d.args:Sem Next).run P w=.ok (.round L.cb rec.fn ((rec.params.zip Vs).foldl (fun tmps (t,a)=>tmps.setIfInBounds t a) rec.tmps) rec.assign rec.body) w:=by
      have:=run_yield (P:=P) (args:=Vs) h3 hsz
      simpa [Deferred.ofValue,invoke] using this
     rw [hrun]
     refine ⟨fun hd=>by simp [Fw,Fence.wide] at hd,?_⟩
     split at h
     ·rename_i s1 H1 hasg
      split at h
      ·rename_i l1 p1 a1 b1 hblk1
       split at h
       ·rename_i e s2 H3 hbody
        split at h
        ·rename_i l3 p3 a3 b3 hblk3
         cases h
         subst h7
         subst h8
         have hsl:bM φ H.length w (dJ ps args slots) ((rec.params.zip Vs).foldl (fun tmps (t,a)=>tmps.setIfInBounds t a) rec.tmps):=by
          have:=mJ (ps:=ps) hargs h9
          rw [←h6] at this ⊢
          rw [←Array.foldl_toList,Array.toList_zip]
          exact this
         refine roundIn_of_wpIn trivial ?_
         refine hcode base _ _ H .normal s1 H1 hasg (a:={ tmps:=_,defers:=[] }) (B:=0) (r:=some L.cb) hbase hH hsl .nil (Nat.zero_le _) (fun l hl=>by cases hl;exact ⟨rec,h3⟩) _ ?_
         intro aa wa φa ha xa sa ma la
         obtain ⟨La,ra,g1,g2,g3,g4,g5,g6,g7,g8,g9⟩:=ha.loop _ _ _ _ _ _ _ hblk1
         have hcb:La.cb=L.cb:=by
          obtain ⟨L0,e1,e2,e3⟩:=xa.loc b hb La g1
          rw [h1] at e1;cases e1
          rw [e3 (by omega)]
         have hst:ra.state=.ready:=by simpa using g4
         have hput:HR N φa (H1.set b (.loop false none l1 p1 a1 b1)) (bE wa La.cb (.loop { ra with state:=.busy })) :=
          ha.put g1 _ _ (fun _ _=>⟨_,rfl⟩) (by simp) (by simp) (by simp) (by intro _ _ _ _ _ _ e;cases e;exact ⟨_,g2,rfl,by simp,g5,g6,g7,g8,g9⟩)
         have hext:cj φa H1.length wa φa (H1.set b (.loop false none l1 p1 a1 b1)).length (bE wa La.cb (.loop { ra with state:=.busy })):=by simpa using cj.put ha g1 _ (fun _ _=>⟨_,rfl⟩)
         refine ⟨bE wa La.cb (.loop { ra with state:=.busy }),by rw [←hcb];exact run_beginRound g3 hst,?_⟩
         refine hcode base _ _ _ e s2 H3 hbody (a:=aa) (B:=0) (r:=some L.cb) (by simpa using Nat.le_trans hbase xa.le) hput (sa.mono hext) (ma.mono hext) (Nat.zero_le _) (fun l hl=>by cases hl;rw [←hcb];exact ⟨_,cM (Array.getElem?_eq_some_iff.1 g3).1⟩) _ ?_
         intro ab wb φb hb' xb _ _ lb
         obtain ⟨Lb,rb,k1,k2,k3,k4,k5,k6,k7,k8,k9⟩:=hb'.loop _ _ _ _ _ _ _ hblk3
         have hcb2:Lb.cb=L.cb:=by
          have hb1:b<(H1.set b (.loop false none l1 p1 a1 b1)).length:=by simpa using Nat.lt_of_lt_of_le hb xa.le
          obtain ⟨L0,e1,e2,e3⟩:=xb.loc b hb1 Lb k1
          rw [g1] at e1;cases e1
          rw [←e3 (by omega)];exact hcb
         have fin:∀(jump:Option Code),jump=e.code→∃v' w',(Instr.endRound L.cb jump).run P wb=.ok v' w'∧next (a.put o.dst v') w':=by
          intro jump hj
          subst hj
          refine ⟨_,_,by rw [←hcb2];exact run_endRound e.code k3,?_⟩
          have hput3:HR N φb (H3.set b (.loop e.code.isNone e.code l3 p3 a3 b3)) (bE wb Lb.cb (.loop { rb with state:=if e.code.isNone then .ready else .done,pending:=e.code })) :=
           hb'.put k1 _ _ (fun _ _=>⟨_,rfl⟩) (by simp) (by simp) (by simp) (by
            intro _ _ _ _ _ _ e';cases e'
            refine ⟨_,k2,rfl,?_,rfl,k6,k7,k8,k9⟩
            cases hn:e.code<;>simp)
          have hext3:cj φb H3.length wb φb (H3.set b (.loop e.code.isNone e.code l3 p3 a3 b3)).length (bE wb Lb.cb (.loop { rb with state:=if e.code.isNone then .ready else .done,pending:=e.code })):=by simpa using cj.put hb' k1 _ (fun _ _=>⟨_,rfl⟩)
          refine hn (.bool e.code.isNone) _ φb (.bool _) hput3 (((xa.trans hext).trans xb).trans hext3) fun b' hb''=>?_
          have hne:b≠b':=by omega
          rw [List.getElem?_set_ne hne,lb b' hb'',List.getElem?_set_ne hne,la b' hb'']
         cases e with
         | normal=>exact fin none rfl
         | ret=>exact fin (some .ret) rfl
         | exit id=>exact fin (some (.exit id)) rfl
        ·cases h
       ·cases h
      ·cases h
     ·cases h
   ·cases h
  ·cases h
 ·cases h
end Go.Proofs.Ev
namespace Go.Proofs.Ev
open Go.RowKit
variable {P:Program} {C:bG} {N:gA} {φ φ' φ0 ψ ψ':fE} {H0:ag} {w w' w0:World}
structure lU (P:Program) (C:bG) (kk base:Nat) (ops:Array Oper) (B:Nat→Nat→Prop) (S:Nat→List AV) (Hp:Nat→ag) (v:Nat→AV) (c:Nat→Nat):Prop where
 bits:∀k i,B k i→mF ops k i
 step:∀i o,ops[i]?=some o→bL P C kk base ops o (iN (looks ops o) (S i)) (Hp i)=some (v i,Hp (i+1))
 put:∀i o,ops[i]?=some o→S (i+1)=nF (S i) o.dst (v i)
 cls:∀i o,ops[i]?=some o→c i=mN P ops (iN (looks ops o) (S i)) o
 back:∀i o,ops[i]?=some o→∀e∈o.after,Region.binds .any e=true→e.on<i
 uniq:∀(i k:Nat) (o o':Oper) (t:Tmp),ops[i]?=some o→ops[k]?=some o'→k≠i→o'.dst=some t→o.dst≠some t
 seen:∀(i k:Nat) (o o':Oper) (t:Tmp),ops[i]?=some o→ops[k]?=some o'→k≠i→o'.dst=some t→t∈looks ops o→B k i∨B i k
 chg:∀i,i<ops.size→2≤c i→c i≠3→∀k,k<i→2≤c k→B k i
 late:∀i,i<ops.size→c i=3→∀j,j<ops.size→B i j→∀k,k<i→2≤c k→B k j
 again:∀i o,ops[i]?=some o→c i=1→∀p,(p=ops.size∨(p<ops.size∧2≤c p))→(∀k,k<ops.size→2≤c k→(B k i→k<p)∧(B i k→p≤k))→∃H1,bL P C kk base ops o (iN (looks ops o) (S i)) (Hp p)=some (v i,H1)
section
variable {kk base:Nat} {ops:Array Oper} {B:Nat→Nat→Prop} {S:Nat→List AV} {Hp:Nat→ag} {v:Nat→AV} {c:Nat→Nat}
theorem nk {i:Nat} (h:i<ops.size):∃o,ops[i]?=some o:=⟨_,Array.getElem?_eq_getElem h⟩
theorem kx {i:Nat} {o:Oper} (h:ops[i]?=some o):i<ops.size:=(Array.getElem?_eq_some_iff.1 h).1
theorem lU.lt (D:lU P C kk base ops B S Hp v c) {k i:Nat} (h:mF ops k i):k<i:=by
 induction h with
 | one ho he hb=>exact D.back _ _ ho _ he hb
 | more ho he hb _ ih=>exact Nat.lt_trans ih (D.back _ _ ho _ he hb)
theorem lU.quiet (D:lU P C kk base ops B S Hp v c) {i:Nat} (hi:i<ops.size) (hc:c i<2):Hp (i+1)=Hp i:=by
 obtain ⟨o,ho⟩:=nk hi
 exact pD (D.step i o ho) (by rw [←D.cls i o ho];omega)
theorem lU.len (D:lU P C kk base ops B S Hp v c):∀i,i≤ops.size→(S i).length=(S 0).length
 | 0,_=>rfl
 | i+1,hi=>by
  obtain ⟨o,ho⟩:=nk (ops:=ops) (i:=i) (by omega)
  rw [D.put i o ho,←D.len i (by omega)]
  cases o.dst<;>simp [nF]
theorem lU.old (D:lU P C kk base ops B S Hp v c) {t:Nat}:∀i,i≤ops.size→(∀k o,k<i→ops[k]?=some o→o.dst≠some t)→(S i)[t]?=(S 0)[t]?
 | 0,_,_=>rfl
 | i+1,hi,h=>by
  obtain ⟨o,ho⟩:=nk (ops:=ops) (i:=i) (by omega)
  rw [D.put i o ho,←D.old i (by omega) fun k o hk=>h k o (by omega)]
  have:=h i o (by omega) ho
  cases hd:o.dst with
  | none=>rfl
  | some d =>
   simp only [nF]
   exact List.getElem?_set_ne fun e=>this (by rw [hd,e])
theorem lU.new (D:lU P C kk base ops B S Hp v c) {t k:Nat} {o':Oper} (hk:ops[k]?=some o') (hd:o'.dst=some t) (ht:t<(S 0).length):∀i,i≤ops.size→k<i→(S i)[t]?=some (v k)
 | 0,_,h=>by omega
 | i+1,hi,h=>by
  obtain ⟨o,ho⟩:=nk (ops:=ops) (i:=i) (by omega)
  rw [D.put i o ho]
  by_cases e:k=i
  ·subst e
   rw [hk] at ho
   cases ho
   rw [hd]
   simp only [nF]
   rw [List.getElem?_set_self (by rw [D.len k (by omega)];exact ht)]
  ·have h1:=D.new hk hd ht i (by omega) (by omega)
   have:=D.uniq i k o o' t ho hk e hd
   cases hd':o.dst with
   | none=>exact h1
   | some d =>
    simp only [nF]
    rw [List.getElem?_set_ne fun e=>this (by rw [hd',e])]
    exact h1
def yp (ops:Array Oper) (listed:Array Bool):Prop :=
 ∀(j:Nat) (o:Oper),ops[j]?=some o→listed.getD j false=true→∀e∈o.after,Region.binds .any e=true→listed.getD e.on false=true
theorem pk {listed:Array Bool} {j:Nat} (h:listed.getD j false=true):listed.getD j true=true:=by
 rcases Nat.lt_or_ge j listed.size with h' | h'
 ·simp [h'] at h ⊢;exact h
 ·simp [Array.getElem?_eq_none h'] at h
theorem yp.set {listed:Array Bool} {i:Nat} (hD:yp ops listed) (hi:i∈Region.ready .any ops listed):yp ops (listed.setIfInBounds i true):=by
 intro j o ho hj e he hb
 by_cases hji:j=i
 ·subst hji
  obtain ⟨_,o',ho',hall⟩:=mem_ready.1 hi
  rw [ho] at ho'
  cases ho'
  exact getD_set_true (hall e he hb)
 ·rw [getD_set_ne false (Ne.symm hji)] at hj
  exact getD_set_true (hD j o ho hj e he hb)
theorem mF.listed {listed:Array Bool} (hD:yp ops listed) {k i:Nat} (h:mF ops k i) (hi:listed.getD i false=true):listed.getD k false=true:=by
 induction h with
 | one ho he hb=>exact hD _ _ ho hi _ he hb
 | more ho he hb _ ih=>exact ih (hD _ _ ho hi _ he hb)
theorem mF.ready {listed:Array Bool} (hD:yp ops listed) {k i:Nat} (h:mF ops k i) (hi:i∈Region.ready .any ops listed):listed.getD k false=true:=by
 obtain ⟨_,o',ho',hall⟩:=mem_ready.1 hi
 cases h with
 | one ho he hb=>rw [ho] at ho';cases ho';exact hall _ he hb
 | more ho he hb h=>rw [ho] at ho';cases ho';exact h.listed hD (hall _ he hb)
structure St (N:gA) (base B0:Nat) (φ0:fE) (H0:ag) (w0:World) (ops:Array Oper) (S:Nat→List AV) (Hp:Nat→ag) (v:Nat→AV) (c:Nat→Nat)
 (listed:Array Bool) (p:Nat) (pd:Nat→Option Nat) (ψ:fE) (a:Act) (w:World):Prop where
 ls:listed.size=ops.size
 pn:p≤ops.size
 below:∀k,k<p→2≤c k→listed.getD k false=true
 above:∀k,p≤k→k<ops.size→2≤c k→listed.getD k false=true→∃cb,pd k=some cb
 pend:∀k cb,pd k=some cb→p≤k∧k<ops.size∧c k=3∧listed.getD k false=true∧w0.heap.size≤cb∧¬φ0.res cb∧
  (∃z Z T,z.cells.all AV.leaf=true∧v k=(fq (Hp k) z).1∧Hp (k+1)=(fq (Hp k) z).2∧(∀φ n w,RV φ n w z Z)∧w.heap[cb]?=some (.cells Z.cells T (0,0)))∧
  ∀o t,ops[k]?=some o→o.dst=some t→t<(S 0).length→a.tmps[t]?=some (.pointer (some ⟨cb,0,none⟩))
 inj:∀k k' cb,pd k=some cb→pd k'=some cb→k=k'
 res:∀x,ψ.res x↔φ0.res x∨∃k,pd k=some x
 hr:HR N ψ (Hp p) w
 ext:j6 φ0 H0.length w0 ψ (Hp p).length w
 size:a.tmps.size=(S 0).length
 old:∀t x,(S 0)[t]?=some x→(∀k o,ops[k]?=some o→listed.getD k false=true→o.dst≠some t)→∃V,a.tmps[t]?=some V∧RV ψ (Hp p).length w x V
 new:∀k o t,ops[k]?=some o→listed.getD k false=true→o.dst=some t→t<(S 0).length→pd k=none→∃V,a.tmps[t]?=some V∧RV ψ (Hp p).length w (v k) V
 marks:fj B0 ψ w a.defers
 low:∀b,b<base→(Hp p)[b]?=H0[b]?
variable {B0:Nat} {listed:Array Bool} {p:Nat} {pd:Nat→Option Nat} {a:Act}
theorem St.advance (D:lU P C kk base ops B S Hp v c) (hN:N.n≤w0.heap.size) (hbase:base≤H0.length):∀(m p:Nat) (pd:Nat→Option Nat) (ψ:fE),ops.size-p≤m→St N base B0 φ0 H0 w0 ops S Hp v c listed p pd ψ a w→
 ∃p' pd' ψ',St N base B0 φ0 H0 w0 ops S Hp v c listed p' pd' ψ' a w∧(p'<ops.size→2≤c p'∧listed.getD p' false=false):=by
 intro m
 induction m with
 | zero=>intro p pd ψ hm h;exact ⟨p,pd,ψ,h,fun hp=>by omega⟩
 | succ m ih =>
  intro p pd ψ hm h
  rcases Nat.lt_or_ge p ops.size with hp | hp
  ·by_cases hc:c p<2
   ·have hq:=D.quiet hp hc
    refine ih (p+1) pd ψ (by omega) ⟨h.ls,hp,fun k hk h2=>?_,fun k hk=>h.above k (by omega),fun k cb hk=>?_,h.inj,h.res,by rw [hq];exact h.hr,by rw [hq];exact h.ext,h.size,
     by rw [hq];exact h.old,by rw [hq];exact h.new,h.marks,by rw [hq];exact h.low⟩
    ·rcases Nat.lt_or_ge k p with hkp | hkp
     ·exact h.below k hkp h2
     ·have:k=p:=by omega
      subst this;omega
    ·obtain ⟨h1,h2,h3,h4⟩:=h.pend k cb hk
     refine ⟨?_,h2,h3,h4⟩
     rcases Nat.lt_or_ge p k with hkp | hkp
     ·exact hkp
     ·have:k=p:=by omega
      subst this;omega
   ·by_cases hl:listed.getD p false=true
    ·obtain ⟨cb,hcb⟩:=h.above p (Nat.le_refl _) hp (by omega) hl
     obtain ⟨_,_,h3,_,h5,h6,⟨z,Z,T,hz,hv,hH,hrv,hh⟩,htm⟩:=h.pend p cb hcb
     have hres:ψ.res cb:=(h.res cb).2 (.inr ⟨p,hcb⟩)
     have hlen:(Hp (p+1)).length=(Hp p).length+1:=by rw [hH];simp [fq,iK]
     have hx:j6 ψ (Hp p).length w (adopt ψ (Hp p).length cb Z.cells.size) (Hp (p+1)).length w:=by rw [hlen];exact j6.adopt hres
     refine ih (p+1) (fun k=>if k=p then none else pd k) (adopt ψ (Hp p).length cb Z.cells.size) (by omega) ⟨h.ls,hp,fun k hk h2=>?_,fun k hk h1 h2 h3=>?_,fun k cb' hk=>?_,fun k k' cb' hk hk'=>?_,fun x=>?_,
      by rw [hH];exact h.hr.adopt hres (by omega) hh (hrv _ _ _) hz,h.ext.trans hx fun x hx=>(h.res x).2 (.inl hx),h.size,fun t x ht hno=>?_,fun k o t hk hlk hd ht hpk=>?_,h.marks.monoR hx,fun b hb=>?_⟩
     ·rcases Nat.lt_or_ge k p with hkp | hkp
      ·exact h.below k hkp h2
      ·have:k=p:=by omega
       subst this;exact hl
     ·obtain ⟨cb',hcb'⟩:=h.above k (by omega) h1 h2 h3
      exact ⟨cb',by rw [if_neg (by omega)];exact hcb'⟩
     ·split at hk
      ·cases hk
      ·rename_i hne
       obtain ⟨h1,h2⟩:=h.pend k cb' hk
       exact ⟨by omega,h2⟩
     ·split at hk
      ·cases hk
      ·split at hk'
       ·cases hk'
       ·exact h.inj k k' cb' hk hk'
     ·simp only [adopt]
      rw [h.res x]
      constructor
      ·rintro ⟨h1 | ⟨k,hk⟩,hne⟩
       ·exact .inl h1
       ·refine .inr ⟨k,?_⟩
        rw [if_neg]
        ·exact hk
        ·rintro rfl;rw [hcb] at hk;cases hk;exact hne rfl
      ·rintro (h1 | ⟨k,hk⟩)
       ·exact ⟨.inl h1,by rintro rfl;exact h6 h1⟩
       ·split at hk
        ·cases hk
        ·rename_i hne
         exact ⟨.inr ⟨k,hk⟩,by rintro rfl;exact hne (h.inj _ _ _ hk hcb)⟩
     ·obtain ⟨V,h1,h2⟩:=h.old t x ht hno
      exact ⟨V,h1,h2.monoC hx.toC⟩
     ·by_cases e:k=p
      ·subst e
       refine ⟨_,htm o t hk hd ht,?_⟩
       rw [hv,hlen]
       refine .ptr (by simp) fun L hL=>?_
       simp only [adopt,if_true,Option.some.injEq] at hL
       subst hL
       exact ⟨Nat.le_refl _,fun _=>by simp⟩
      ·simp only [e,if_false] at hpk
       obtain ⟨V,h1,h2⟩:=h.new k o t hk hlk hd ht hpk
       exact ⟨V,h1,h2.monoC hx.toC⟩
     ·rw [hH]
      simp only [fq,iK]
      rw [List.getElem?_append_left (by have:=h.ext.le;omega)]
      exact h.low b hb
    ·exact ⟨p,pd,ψ,h,fun _=>⟨by omega,by simpa using hl⟩⟩
  ·exact ⟨p,pd,ψ,h,fun hp'=>by omega⟩
end
end Go.Proofs.Ev
namespace Go.Proofs.Ev
open Go.RowKit
variable {P:Program} {C:bG} {N:gA} {φ φ' φ0 ψ ψ':fE} {H0:ag} {w w' w0:World}
variable {kk base:Nat} {ops:Array Oper} {B:Nat→Nat→Prop} {S:Nat→List AV} {Hp:Nat→ag} {v:Nat→AV} {c:Nat→Nat}
variable {B0:Nat} {listed:Array Bool} {p:Nat} {pd:Nat→Option Nat} {a:Act}
theorem jp {dst:Option Tmp} {V:Value} {t:Tmp} (h:dst≠some t):(a.put dst V).tmps[t]?=a.tmps[t]?:=by
 cases dst with
 | none=>rfl
 | some d=>simp only [Act.put];exact Array.getElem?_setIfInBounds_ne fun e=>h (by rw [e])
theorem DA {dst:Option Tmp} {V:Value} {t:Tmp} (h:dst=some t) (ht:t<a.tmps.size):(a.put dst V).tmps[t]?=some V:=by
 subst h
 simp only [Act.put]
 rw [Array.getElem?_setIfInBounds_self_of_lt ht]
theorem z6 {dst:Option Tmp} {V:Value}:(a.put dst V).tmps.size=a.tmps.size:=by cases dst<;>simp [Act.put]
theorem rE {i:Nat} (hi:i∈Region.ready .any ops listed):listed.getD i false=false:=by
 cases h:listed.getD i false with
 | false=>rfl
 | true=>have:=(mem_ready.1 hi).1;rw [pk h] at this;cases this
theorem uR {i:Nat} (h:i<listed.size):(listed.setIfInBounds i true).getD i false=true:=by simp [h]
theorem St.solid (D:lU P C kk base ops B S Hp v c) (h:St N base B0 φ0 H0 w0 ops S Hp v c listed p pd ψ a w) (hf:p<ops.size→2≤c p∧listed.getD p false=false) (hD:yp ops listed) {i k:Nat} (hi:i∈Region.ready .any ops listed) (hB:B k i):pd k=none:=by
 cases hk:pd k with
 | none=>rfl
 | some cb =>
  exfalso
  obtain ⟨h1,h2,h3,h4,_⟩:=h.pend k cb hk
  obtain ⟨h5,h6⟩:=hf (by omega)
  obtain ⟨_,o,ho,_⟩:=mem_ready.1 hi
  have hne:p≠k:=by rintro rfl;rw [h4] at h6;cases h6
  have:=(D.bits _ _ (D.late k h2 h3 i (kx ho) hB p (by omega) h5)).ready hD hi
  rw [h6] at this;cases this
theorem St.slots (D:lU P C kk base ops B S Hp v c) (h:St N base B0 φ0 H0 w0 ops S Hp v c listed p pd ψ a w) (hf:p<ops.size→2≤c p∧listed.getD p false=false) (hD:yp ops listed) {i:Nat} {o:Oper} (ho:ops[i]?=some o) (hi:i∈Region.ready .any ops listed) :
 bM ψ (Hp p).length w (iN (looks ops o) (S i)) a.tmps:=by
 obtain ⟨h1,h2⟩:=Eg (looks ops o) (S i)
 have hlen:=D.len i (Nat.le_of_lt (kx ho))
 refine ⟨by rw [h1,hlen];exact h.size,fun t x hx=>?_⟩
 have hlt:t<a.tmps.size:=by
  have:=(List.getElem?_eq_some_iff.1 hx).1
  rw [h1,hlen] at this
  rw [h.size];exact this
 rcases h2 t x hx with rfl | ⟨hm,hS⟩
 ·exact ⟨_,Array.getElem?_eq_getElem hlt,.undef _⟩
 ·have hno:=rE hi
  by_cases hw:∃k o',k<i∧ops[k]?=some o'∧o'.dst=some t
  ·obtain ⟨k,o',hk,ho',hd⟩:=hw
   rw [D.new ho' hd (by rw [←h.size];exact hlt) i (Nat.le_of_lt (kx ho)) hk] at hS
   cases hS
   rcases D.seen i k o o' t ho ho' (by omega) hd hm with hb | hb
   ·exact h.new k o' t ho' ((D.bits _ _ hb).ready hD hi) hd (by rw [←h.size];exact hlt) (h.solid D hf hD hi hb)
   ·have:=D.lt (D.bits _ _ hb);omega
  ·rw [D.old i (Nat.le_of_lt (kx ho)) fun k o' hk ho' hd=>hw ⟨k,o',hk,ho',hd⟩] at hS
   refine h.old t x hS fun k o' ho' hl hd=>?_
   have hne:k≠i:=by rintro rfl;rw [hno] at hl;cases hl
   rcases D.seen i k o o' t ho ho' hne hd hm with hb | hb
   ·exact hw ⟨k,o',D.lt (D.bits _ _ hb),ho',hd⟩
   ·have:=(D.bits _ _ hb).listed hD hl
    rw [hno] at this;cases this
theorem St.step (D:lU P C kk base ops B S Hp v c) (h:St N base B0 φ0 H0 w0 ops S Hp v c listed p pd ψ a w) {i:Nat} {o:Oper} (ho:ops[i]?=some o) (hno:listed.getD i false=false) {q:Nat} (hq:(q=p∧c i<2)∨(p=i∧q=i+1))
 {V:Value} (hv:RV ψ' (Hp q).length w' (v i) V) (hr:HR N ψ' (Hp q) w') (hx:cj ψ (Hp p).length w ψ' (Hp q).length w') (hlow:∀b,b<base→(Hp q)[b]?=(Hp p)[b]?) :
 St N base B0 φ0 H0 w0 ops S Hp v c (listed.setIfInBounds i true) q pd ψ' (a.put o.dst V) w':=by
 have hi:=kx ho
 have hset:(listed.setIfInBounds i true).getD i false=true:=uR (by rw [h.ls];exact hi)
 have hback:∀k,k≠i→(listed.setIfInBounds i true).getD k false=true→listed.getD k false=true:=fun k hk hl=>by rwa [getD_set_ne false (Ne.symm hk)] at hl
 refine ⟨by simp [h.ls],?_,fun k hk h2=>?_,fun k hk h1 h2 hl=>?_,fun k cb hk=>?_,h.inj,fun x=>by rw [hx.res];exact h.res x,hr,h.ext.trans hx.toR fun x hx=>(h.res x).2 (.inl hx),by rw [z6];exact h.size,
  fun t x ht hnw=>?_,fun k o' t hk hl hd ht hpk=>?_,by rw [px];exact h.marks.mono hx,fun b hb=>(hlow b hb).trans (h.low b hb)⟩
 ·rcases hq with ⟨rfl,_⟩ | ⟨_,rfl⟩
  ·exact h.pn
  ·exact hi
 ·by_cases e:k=i
  ·subst e;exact hset
  ·refine getD_set_true (h.below k ?_ h2)
   rcases hq with ⟨rfl,_⟩ | ⟨rfl,rfl⟩<;>omega
 ·have e:k≠i:=by rintro rfl;rcases hq with ⟨_,h3⟩ | ⟨_,rfl⟩<;>omega
  exact h.above k (by rcases hq with ⟨rfl,_⟩ | ⟨rfl,rfl⟩<;>omega) h1 h2 (hback k e hl)
 ·obtain ⟨h1,h2,h3,h4,h5,h6,⟨z,Z,T,hz,hvk,hH,hrv,hh⟩,htm⟩:=h.pend k cb hk
  have e:k≠i:=by rintro rfl;rw [hno] at h4;cases h4
  refine ⟨by rcases hq with ⟨rfl,_⟩ | ⟨rfl,rfl⟩<;>omega,h2,h3,getD_set_true h4,h5,h6,⟨z,Z,T,hz,hvk,hH,hrv,hx.keep cb _ ((h.res cb).2 (.inr ⟨k,hk⟩)) hh⟩,fun o' t ho' hd ht=>?_⟩
  rw [jp (D.uniq i k o o' t ho ho' e hd)]
  exact htm o' t ho' hd ht
 ·obtain ⟨U,h1,h2⟩:=h.old t x ht fun k o' ho' hl=>hnw k o' ho' (getD_set_true hl)
  exact ⟨U,by rw [jp (hnw i o ho hset)];exact h1,h2.mono hx⟩
 ·by_cases e:k=i
  ·subst e
   rw [ho] at hk
   cases hk
   exact ⟨V,DA hd (by rw [h.size];exact ht),hv⟩
  ·obtain ⟨U,h1,h2⟩:=h.new k o' t hk (hback k e hl) hd ht hpk
   exact ⟨U,by rw [jp (D.uniq i k o o' t ho hk e hd)];exact h1,h2.mono hx⟩
theorem St.ahead (D:lU P C kk base ops B S Hp v c) (hress:∀x,φ0.res x→x<w0.heap.size) (h:St N base B0 φ0 H0 w0 ops S Hp v c listed p pd ψ a w) {i:Nat} {o:Oper} (ho:ops[i]?=some o) (hno:listed.getD i false=false) (hc:c i=3) (hp:p≤i)
 {z:AV} {Z:Value} {T:TypeId} (hz:z.cells.all AV.leaf=true) (hv:v i=(fq (Hp i) z).1) (hH:Hp (i+1)=(fq (Hp i) z).2) (hrv:∀φ n w,RV φ n w z Z) :
 St N base B0 φ0 H0 w0 ops S Hp v c (listed.setIfInBounds i true) p (fun k=>if k=i then some w.heap.size else pd k) (hold ψ w.heap.size) (a.put o.dst (.pointer (some ⟨w.heap.size,0,none⟩))) (w.alloc (.cells Z.cells T (0,0))):=by
 have hi:=kx ho
 have hset:(listed.setIfInBounds i true).getD i false=true:=uR (by rw [h.ls];exact hi)
 have hback:∀k,k≠i→(listed.setIfInBounds i true).getD k false=true→listed.getD k false=true:=fun k hk hl=>by rwa [getD_set_ne false (Ne.symm hk)] at hl
 have hx:j6 ψ (Hp p).length w (hold ψ w.heap.size) (Hp p).length (w.alloc (.cells Z.cells T (0,0))):=j6.hold _
 have hlt:∀k cb,pd k=some cb→cb<w.heap.size:=fun k cb hk=>h.hr.ress cb ((h.res cb).2 (.inr ⟨k,hk⟩))
 have hpi:pd i=none:=by
  cases hk:pd i with
  | none=>rfl
  | some cb=>have:=(h.pend i cb hk).2.2.2.1;rw [hno] at this;cases this
 refine ⟨by simp [h.ls],h.pn,fun k hk h2=>getD_set_true (h.below k hk h2),fun k hk h1 h2 hl=>?_,fun k cb hk=>?_,fun k k' cb hk hk'=>?_,fun x=>?_,h.hr.hold _,h.ext.trans hx fun x hx=>(h.res x).2 (.inl hx),by rw [z6];exact h.size,
  fun t x ht hnw=>?_,fun k o' t hk hl hd ht hpk=>?_,by rw [px];exact h.marks.monoR hx,h.low⟩
 ·by_cases e:k=i
  ·exact ⟨_,if_pos e⟩
  ·obtain ⟨cb,h3⟩:=h.above k hk h1 h2 (hback k e hl)
   exact ⟨cb,by rw [if_neg e];exact h3⟩
 ·by_cases e:k=i
  ·subst e
   rw [if_pos rfl] at hk
   cases hk
   refine ⟨hp,hi,hc,hset,h.ext.size,fun hr=>?_,⟨z,Z,T,hz,hv,hH,hrv,be⟩,fun o' t ho' hd ht=>?_⟩
   ·have:=hress _ hr
    have:=h.ext.size
    omega
   ·rw [ho] at ho'
    cases ho'
    exact DA hd (by rw [h.size];exact ht)
  ·rw [if_neg e] at hk
   obtain ⟨h1,h2,h3,h4,h5,h6,⟨z',Z',T',hz',hvk,hH',hrv',hh⟩,htm⟩:=h.pend k cb hk
   refine ⟨h1,h2,h3,getD_set_true h4,h5,h6,⟨z',Z',T',hz',hvk,hH',hrv',(aX (hlt k cb hk)).trans hh⟩,fun o' t ho' hd ht=>?_⟩
   rw [jp (D.uniq i k o o' t ho ho' e hd)]
   exact htm o' t ho' hd ht
 ·split at hk
  ·rename_i e
   cases hk
   split at hk'
   ·rename_i e';omega
   ·have:=hlt _ _ hk';omega
  ·split at hk'
   ·cases hk';have:=hlt _ _ hk;omega
   ·exact h.inj _ _ _ hk hk'
 ·simp only [hold]
  rw [h.res x]
  constructor
  ·rintro ((h1 | ⟨k,hk⟩) | rfl)
   ·exact .inl h1
   ·exact .inr ⟨k,by rw [if_neg];exact hk;rintro rfl;rw [hpi] at hk;cases hk⟩
   ·exact .inr ⟨i,if_pos rfl⟩
  ·rintro (h1 | ⟨k,hk⟩)
   ·exact .inl (.inl h1)
   ·split at hk
    ·cases hk;exact .inr rfl
    ·exact .inl (.inr ⟨k,hk⟩)
 ·obtain ⟨U,h1,h2⟩:=h.old t x ht fun k o' ho' hl=>hnw k o' ho' (getD_set_true hl)
  exact ⟨U,by rw [jp (hnw i o ho hset)];exact h1,h2.monoC hx.toC⟩
 ·by_cases e:k=i
  ·rw [if_pos e] at hpk;cases hpk
  ·rw [if_neg e] at hpk
   obtain ⟨U,h1,h2⟩:=h.new k o' t hk (hback k e hl) hd ht hpk
   exact ⟨U,by rw [jp (D.uniq i k o o' t ho hk e hd)];exact h1,h2.monoC hx.toC⟩
end Go.Proofs.Ev
namespace Go.Proofs.Ev
open Go.RowKit
variable {P:Program} {C:bG} {N:gA} {φ φ' φ0 ψ ψ':fE} {H0:ag} {w w' w0:World}
variable {kk base:Nat} {ops:Array Oper} {B:Nat→Nat→Prop} {S:Nat→List AV} {Hp:Nat→ag} {v:Nat→AV} {c:Nat→Nat}
variable {B0:Nat} {listed:Array Bool} {p:Nat} {pd:Nat→Option Nat} {a:Act}
def FM (listed:Array Bool):Nat→Nat
 | 0=>0
 | m+1=>FM listed m+if listed.getD m false=true then 0 else 1
theorem IM {listed:Array Bool} {i:Nat}:∀m,FM (listed.setIfInBounds i true) m≤FM listed m
 | 0=>Nat.le_refl _
 | m+1=>by
  have:=IM (listed:=listed) (i:=i) m
  simp only [FM]
  by_cases h:listed.getD m false=true
  ·rw [if_pos h,if_pos (getD_set_true h)];exact this
  ·rw [if_neg h]
   split<;>omega
theorem IN {i:Nat} (hs:i<listed.size) (hi:listed.getD i false=false):∀m,i<m→FM (listed.setIfInBounds i true) m<FM listed m
 | 0,h=>by omega
 | m+1,h=>by
  simp only [FM]
  by_cases e:i=m
  ·subst e
   rw [if_pos (uR hs),if_neg (by rw [hi];simp)]
   have:=IM (listed:=listed) (i:=i) i
   omega
  ·have:=IN hs hi m (by omega)
   by_cases h:listed.getD m false=true
   ·rw [if_pos h,if_pos (getD_set_true h)];exact this
   ·rw [if_neg h]
    split<;>omega
theorem AI:∀m,FM listed m=0→∀i,i<m→listed.getD i false=true
 | 0,_,i,hi=>by omega
 | m+1,h,i,hi=>by
  simp only [FM] at h
  by_cases e:i=m
  ·subst e
   by_cases hl:listed.getD i false=true
   ·exact hl
   ·rw [if_neg hl] at h;omega
  ·exact AI m (by omega) i (by omega)
theorem wL (n:Nat):∀m,FM (Array.replicate n false) m≤m
 | 0=>Nat.le_refl _
 | m+1=>by
  have:=wL n m
  simp only [FM]
  split<;>omega
theorem AY (D:lU P C kk base ops B S Hp v c) (hs:listed.size=ops.size) (hr:Region.ready .any ops listed=[]):∀i,i<ops.size→listed.getD i false=true:=by
 intro i
 induction i using Nat.strongRecOn with
 | _ i ih =>
  intro hi
  cases hl:listed.getD i false with
  | true=>rfl
  | false =>
   exfalso
   obtain ⟨o,ho⟩:=nk hi
   have:i∈Region.ready .any ops listed:=by
    refine mem_ready.2 ⟨?_,o,ho,fun e he hb=>?_⟩
    ·have:i<listed.size:=by omega
     simp [this] at hl ⊢;exact hl
    ·have:=D.back i o ho e he hb
     exact ih _ this (by omega)
   rw [hr] at this
   cases this
theorem St.done (D:lU P C kk base ops B S Hp v c) (h:St N base B0 φ0 H0 w0 ops S Hp v c listed p pd ψ a w) (hf:p<ops.size→2≤c p∧listed.getD p false=false) (hall:∀i,i<ops.size→listed.getD i false=true)
 {Q:Exit→Act→World→Prop} (hQ:∀a' w' φ',HR N φ' (Hp ops.size) w'→cj φ0 H0.length w0 φ' (Hp ops.size).length w'→bM φ' (Hp ops.size).length w' (S ops.size) a'.tmps→fj B0 φ' w' a'.defers→(∀b,b<base→(Hp ops.size)[b]?=H0[b]?)→Q .normal a' w') :
 Q .normal a w:=by
 have hp:p=ops.size:=by
  rcases Nat.lt_or_ge p ops.size with h1 | h1
  ·have:=(hf h1).2;rw [hall p h1] at this;cases this
  ·have:=h.pn;omega
 subst hp
 have hpd:∀k,pd k=none:=fun k=>by
  cases hk:pd k with
  | none=>rfl
  | some cb=>have:=h.pend k cb hk;omega
 refine hQ a w ψ h.hr (h.ext.tocj ?_) ⟨by rw [D.len _ (Nat.le_refl _)];exact h.size,fun t x hx=>?_⟩ h.marks h.low
 ·funext x
  apply propext
  rw [h.res x]
  refine ⟨fun h1=>h1.elim id fun hk=>?_,Or.inl⟩
  obtain ⟨k,hk⟩:=hk
  rw [hpd k] at hk;cases hk
 ·have ht:t<(S 0).length:=by
   rw [←D.len _ (Nat.le_refl _)];exact (List.getElem?_eq_some_iff.1 hx).1
  by_cases hw:∃k o',k<ops.size∧ops[k]?=some o'∧o'.dst=some t
  ·obtain ⟨k,o',hk,ho',hd⟩:=hw
   rw [D.new ho' hd ht _ (Nat.le_refl _) hk] at hx
   cases hx
   exact h.new k o' t ho' (hall k hk) hd ht (hpd k)
  ·rw [D.old _ (Nat.le_refl _) fun k o' hk ho' hd=>hw ⟨k,o',hk,ho',hd⟩] at hx
   exact h.old t x hx fun k o' ho' _ hd=>hw ⟨k,o',kx ho',ho',hd⟩
theorem GJ (hstep:qP P C N kk) (D:lU P C kk base ops B S Hp v c) (hH0:HR N φ0 H0 w0) (hbase:base≤H0.length) {r:Option Nat} (Di:gB r w0)
 {Q:Exit→Act→World→Prop} (hQ:∀a' w' φ',HR N φ' (Hp ops.size) w'→cj φ0 H0.length w0 φ' (Hp ops.size).length w'→bM φ' (Hp ops.size).length w' (S ops.size) a'.tmps→fj B0 φ' w' a'.defers→(∀b,b<base→(Hp ops.size)[b]?=H0[b]?)→Q .normal a' w') :
 ∀(fuel:Nat) (listed:Array Bool) (p:Nat) (pd:Nat→Option Nat) (ψ:fE) (a:Act) (w:World),FM listed ops.size≤fuel→yp ops listed→St N base B0 φ0 H0 w0 ops S Hp v c listed p pd ψ a w→(p<ops.size→2≤c p∧listed.getD p false=false)→
  wpAnyIn (Fw r) 0 P .any ops Q fuel listed a w:=by
 intro fuel
 induction fuel with
 | zero =>
  intro listed p pd ψ a w hu hD h hf
  have hall:=AI ops.size (Nat.le_zero.1 hu)
  refine ⟨?_,h.done D hf hall hQ⟩
  rw [List.eq_nil_iff_forall_not_mem]
  intro i hi
  obtain ⟨_,o,ho,_⟩:=mem_ready.1 hi
  have:=rE hi
  rw [hall i (kx ho)] at this
  cases this
 | succ fuel ih =>
  intro listed p pd ψ a w hu hD h hf
  refine ⟨fun he=>h.done D hf (AY D h.ls he) hQ,fun i hi=>?_⟩
  obtain ⟨_,o,ho,_⟩:=mem_ready.1 hi
  have hno:=rE hi
  have hlt:=kx ho
  have hsl:=h.slots D hf hD ho hi
  have hu':FM (listed.setIfInBounds i true) ops.size≤fuel:=by
   have:=IN (by rw [h.ls];exact hlt) hno ops.size hlt
   omega
  have hrd:gB r w:=Di.monoR h.ext
  have hbase':base≤(Hp p).length:=Nat.le_trans hbase h.ext.le
  have next:∀{p' pd' ψ' a' w'},St N base B0 φ0 H0 w0 ops S Hp v c (listed.setIfInBounds i true) p' pd' ψ' a' w'→wpAnyIn (Fw r) 0 P .any ops Q fuel (listed.setIfInBounds i true) a' w':=by
   intro p' pd' ψ' a' w' h'
   obtain ⟨p2,pd2,ψ2,h2,hf2⟩:=St.advance D hH0.low hbase _ p' pd' ψ' (Nat.le_refl _) h'
   exact ih _ p2 pd2 ψ2 a' w' hu' (hD.set hi) h2 hf2
  unfold wpOpIn
  simp only [ho]
  have go:∀q,(q=p∧c i<2)∨(p=i∧q=i+1)→bL P C kk base ops o (iN (looks ops o) (S i)) (Hp p)=some (v i,Hp q)→
   if Region.wanted o (yielded ops a.tmps) then o.wpIn (Fw r) 0 P a w (wpAnyIn (Fw r) 0 P .any ops Q fuel (listed.setIfInBounds i true)) Q else (∀f,o.about P w a.eval=some f→(Fw r).fn f)∧wpAnyIn (Fw r) 0 P .any ops Q fuel (listed.setIfInBounds i true) (a.put o.dst Go.undef) w :=
   fun q hq hst=>hstep base ops o _ (Hp p) (v i) (Hp q) hst hbase' h.hr hsl hrd _ Q fun V w' ψ' hv hr' hx hlow=>next (h.step D ho hno hq hv hr' hx hlow)
  by_cases hc:c i<2
  ·refine go p (.inl ⟨rfl,hc⟩) ?_
   by_cases hc0:c i=0
   ·exact (uV (Hp p) (D.step i o ho) (by rw [←D.cls i o ho];exact hc0)).1
   ·have hwin:∀k,k<ops.size→2≤c k→(B k i→k<p)∧(B i k→p≤k):=fun k hk h2=>by
     refine ⟨fun hb=>?_,fun hb=>?_⟩
     ·rcases Nat.lt_or_ge k p with h3 | h3
      ·exact h3
      ·obtain ⟨cb,h4⟩:=h.above k h3 hk h2 ((D.bits _ _ hb).ready hD hi)
       rw [h.solid D hf hD hi hb] at h4;cases h4
     ·rcases Nat.lt_or_ge k p with h3 | h3
      ·have:=(D.bits _ _ hb).listed hD (h.below k h3 h2)
       rw [hno] at this;cases this
      ·exact h3
    have hpp:p=ops.size∨(p<ops.size∧2≤c p):=by
     rcases Nat.lt_or_ge p ops.size with h3 | h3
     ·exact .inr ⟨h3,(hf h3).1⟩
     ·exact .inl (by have:=h.pn;omega)
    obtain ⟨H1,h1⟩:=D.again i o ho (by omega) p hpp hwin
    have:=pD h1 (by rw [←D.cls i o ho];omega)
    rw [h1,this]
  ·have hpi:p≤i:=by
    rcases Nat.lt_or_ge i p with h3 | h3
    ·have:=h.below i h3 (by omega)
     rw [hno] at this;cases this
    ·exact h3
   by_cases hpe:p=i
   ·subst hpe
    exact go (p+1) (.inr ⟨rfl,rfl⟩) (D.step p o ho)
   ·obtain ⟨h5,h6⟩:=hf (by omega)
    by_cases hc3:c i=3
    ·obtain ⟨hw,t,z,hop,hz,hv,hH⟩:=CP (D.step i o ho) (by rw [←D.cls i o ho];exact hc3)
     rw [qM hsl hw,if_pos rfl]
     refine ⟨fun _ _=>trivial,?_⟩
     obtain ⟨inf,Z,h7,h8,h9,h10,h11⟩:=db (φ:=ψ) (w:=w) (n:=0) hz
     have hsem:o.semAt (Fw r).round a.eval=execOp a.eval o:=Oper.semAt_eq _ _ _ (by rw [hop];simp)
     have hrun:(execOp a.eval o).run P w=.ok (.value (.pointer (some ⟨w.heap.size,0,none⟩))) (w.alloc (.cells Z.cells t (0,0))):=by
      unfold execOp
      rw [hop]
      simp [Instr.alloc,h9,newVar,newRow]
     rw [hsem,hrun]
     refine next (h.ahead D hH0.ress ho hno hc3 hpi h11 hv hH fun φ n w=>?_)
     obtain ⟨_,Z',h7',h8',_,h10',_⟩:=db (φ:=φ) (w:=w) (n:=n) hz
     rw [h7] at h7'
     cases h7'
     rw [h8] at h8'
     cases h8'
     exact h10'
    ·exfalso
     have:=(D.bits _ _ (D.chg i hlt (by omega) hc3 p (by omega) h5)).ready hD hi
     rw [h6] at this;cases this
end Go.Proofs.Ev
namespace Go.Proofs.Ev
open Go.RowKit
variable {P:Program} {C:bG} {N:gA} {φ φ':fE} {H H':ag} {w w':World} {k base:Nat}
theorem jW {ops:Array Oper} {n:Nat} {bef:Nat→Nat→Bool} {cls:Nat→Nat} {dst:Nat→Option Tmp} {val:Nat→AV} {ch:List Nat} {again:Nat→Nat→Option (AV×ag)} (h:m8 ops n bef cls dst val ch again=true) {i:Nat} (hi:i<n) {o:Oper} (ho:ops[i]?=some o) :
 (∀e∈o.after,Region.binds .any e=true→e.on<i)∧
 (∀k d,k<n→k≠i→dst k=some d→dst i≠some d∧(d∈looks ops o→bef k i=true∨bef i k=true))∧
 (2≤cls i→cls i≠3→∀k∈ch,k<i→bef k i=true)∧
 (cls i=3→∀j,j<n→bef i j=true→∀k∈ch,k<i→bef k j=true)∧
 (cls i=1→∀p,(p∈ch∨p=n)→(∀k∈ch,(bef k i=true→k<p)∧(bef i k=true→p≤k))→∃v H1,again i p=some (v,H1)∧AV.beq v (val i)=true):=by
 unfold m8 at h
 rw [List.all_eq_true] at h
 have h:=h i (List.mem_range.2 hi)
 simp only [ho,Bool.and_eq_true,List.all_eq_true,List.mem_range,Bool.or_eq_true,beq_iff_eq,decide_eq_true_eq,Bool.not_eq_true',bne_iff_ne,ne_eq] at h
 obtain ⟨⟨⟨⟨h1,h2⟩,h3⟩,h4⟩,h5⟩:=h
 refine ⟨fun e he hb=>?_,fun k d hk hne hd=>?_,fun h6 h7 k hk hki=>?_,fun h6 j hj hb k hk hki=>?_,fun h6 p hp hw=>?_⟩
 ·rcases h1 e (by simpa using he) with h | h
  ·rw [hb] at h;cases h
  ·exact h
 ·rcases h2 k hk with h | h
  ·exact absurd h hne
  ·rw [hd] at h
   simp only [Bool.and_eq_true,bne_iff_ne,ne_eq,Bool.or_eq_true,Bool.not_eq_true'] at h
   refine ⟨h.1,fun hm=>?_⟩
   rcases h.2 with (h8 | h8) | h8
   ·rw [List.contains_iff_mem.2 hm] at h8;cases h8
   ·exact .inl h8
   ·exact .inr h8
 ·rcases h3 with (h | h) | h
  ·omega
  ·exact absurd h h7
  ·rcases h k hk with h | h
   ·omega
   ·exact h
 ·rcases h4 with h | h
  ·simp [h6] at h
  ·rcases h j hj with h | h
   ·rw [hb] at h;cases h
   ·rcases h k hk with h | h
    ·omega
    ·exact h
 ·rcases h5 with h | h
  ·simp [h6] at h
  ·have hpm:p∈ch++[n]:=by simpa using hp
   rcases h p hpm with h | h
   ·exfalso
    have:(ch.all fun k=>(!bef k i||decide (k<p))&&(!bef i k||decide (p≤k)))=true:=by
     rw [List.all_eq_true]
     intro k hk
     obtain ⟨h8,h9⟩:=hw k hk
     cases hb1:bef k i<;>cases hb2:bef i k<;>simp [hb1,hb2] at h8 h9 ⊢<;>omega
    rw [this] at h
    cases h
   ·split at h
    ·rename_i v H1 he
     exact ⟨v,H1,he,h⟩
    ·cases h
theorem Ab (hmix:P.follows .mixedOrders=true) (hstep:qP P C N k) {id:Nat} {ops:Array Oper} {s s':List AV} {tr:List Tr} (hrt:mB P ops (fun o s H=>bL P C k base ops o s H) ops.toList s H=some (tr,s',H'))
 (hok:jO ops tr H' (fun o s H=>bL P C k base ops o s H)=true) {a:Act} {r:Option Nat} {B0:Nat} (hbase:base≤H.length) (hH:HR N φ H w) (hs:bM φ H.length w s a.tmps) (hm:fj B0 φ w a.defers) (hr:gB r w)
 {Q:Exit→Act→World→Prop} (hQ:∀a' w' φ',HR N φ' H' w'→cj φ H.length w φ' H'.length w'→bM φ' H'.length w' s' a'.tmps→fj B0 φ' w' a'.defers→(∀b,b<base→H'[b]?=H[b]?)→Q .normal a' w'):(Code.region id ops true).wpIn (Fw r) 0 P Q a w:=by
 obtain ⟨hlen,S,Hp,hS0,hH0,hSn,hHn,hst⟩:=lP _ _ _ _ _ _ hrt
 have hsz:ops.toList.length=ops.size:=by simp
 rw [hsz] at hlen hSn hHn
 have hget:∀{i:Nat} {o:Oper},ops[i]?=some o→ops.toList[i]?=some o:=fun h=>by rw [Array.getElem?_toList];exact h
 unfold jO at hok
 simp only at hok
 have hch:∀{j:Nat},j∈(List.range tr.length).filter (fun i=>2≤(tr.getD i default).c)↔j<ops.size∧2≤(tr.getD j default).c:=by
  intro j;rw [List.mem_filter,List.mem_range,hlen];simp
 have hi':∀{i:Nat},i<ops.size→i<tr.length:=fun h=>by rw [hlen];exact h
 have D:lU P C k base ops (fun m i=>(((vG ops.toList []).getD i 0).testBit m)=true) S Hp (fun i=>(tr.getD i default).v) (fun i=>(tr.getD i default).c):=by
  refine ⟨fun m i hb=>oT ops.toList [] (by simp) (fun j m hj=>by simp at hj) i m hb,fun i o ho=>(hst i o (hget ho)).2.2.1,fun i o ho=>(hst i o (hget ho)).2.2.2.1,fun i o ho=>(hst i o (hget ho)).2.2.2.2,
   fun i o ho=>(jW hok (hi' (kx ho)) ho).1,fun i m o o' t ho ho' hne hd hd'=>?_,fun i m o o' t ho ho' hne hd hl=>?_,fun i hi h2 h3 m hm h4=>?_,fun i hi h3 j hj hb m hm h4=>?_,fun i o ho h1 p hp hw=>?_⟩
  ·have:=((jW hok (hi' (kx ho)) ho).2.1 m t (hi' (kx ho')) hne (by rw [ho'];exact hd)).1
   rw [ho] at this
   exact this hd'
  ·exact ((jW hok (hi' (kx ho)) ho).2.1 m t (hi' (kx ho')) hne (by rw [ho'];exact hd)).2 hl
  ·obtain ⟨o,ho⟩:=nk hi
   exact (jW hok (hi' hi) ho).2.2.1 h2 h3 m (hch.2 ⟨by omega,h4⟩) hm
  ·obtain ⟨o,ho⟩:=nk hi
   exact (jW hok (hi' hi) ho).2.2.2.1 h3 j (hi' hj) hb m (hch.2 ⟨by omega,h4⟩) hm
  ·obtain ⟨v,H1,h2,h3⟩:=(jW hok (hi' (kx ho)) ho).2.2.2.2 h1 p (by
    rcases hp with h | h
    ·exact .inr (by rw [hlen];exact h)
    ·exact .inl (hch.2 h)) fun m hm=>hw m (hch.1 hm).1 (hch.1 hm).2
   rw [ho] at h2
   simp only at h2
   refine ⟨H1,?_⟩
   rw [←Gn _ _ h3,←(hst i o (hget ho)).1]
   have hpp:(if p<tr.length then (tr.getD p default).h else H')=Hp p:=by
    rcases hp with h | h
    ·rw [if_neg (by omega),h,hHn]
    ·rw [if_pos (by omega)]
     obtain ⟨o',ho'⟩:=nk h.1
     exact (hst p o' (hget ho')).2.1
   rw [←hpp]
   exact h2
 refine wpIn_region_any hmix ?_
 change wpAnyIn (Fw r) 0 P .any ops Q ops.size (Array.replicate ops.size false) a w.drew
 have hfalse:∀i,(Array.replicate ops.size false).getD i false=true→False:=fun i hi=>by
  simp only [Array.getD_eq_getD_getElem?,Array.getElem?_replicate] at hi
  split at hi<;>cases hi
 have hinit:St N base B0 φ H w.drew ops S Hp (fun i=>(tr.getD i default).v) (fun i=>(tr.getD i default).c) (Array.replicate ops.size false) 0 (fun _=>none) φ a w.drew:=by
  refine ⟨by simp,Nat.zero_le _,fun m hm=>by omega,fun m _ _ _ hl=>(hfalse m hl).elim,fun m cb hm=>(by cases hm),fun m m' cb hm=>(by cases hm),fun x=>⟨.inl,fun h=>h.elim (fun h=>h) fun ⟨_,h⟩=>(by cases h)⟩,by rw [hH0];exact hH.drew,by rw [hH0];exact cj.refl.toR,by rw [hS0];exact hs.1,
   fun t x hx _=>?_,fun m o t _ hl=>(hfalse m hl).elim,hm.mono (cj.drew (n:=H.length)),fun b _=>by rw [hH0]⟩
  rw [hS0] at hx
  rw [hH0]
  obtain ⟨V,h1,h2⟩:=hs.2 t x hx
  exact ⟨V,h1,h2.mono cj.drew⟩
 obtain ⟨p,pd,ψ,h1,h2⟩:=St.advance D hH.drew.low hbase _ 0 _ _ (Nat.le_refl _) hinit
 refine GJ hstep D hH.drew hbase (hr.mono (φ':=φ) (n:=H.length) (n':=H.length) cj.drew) (fun a' w' φ' g1 g2 g3 g4 g5=>?_) ops.size _ p pd ψ a w.drew (wL _ _) (fun j o _ hj=>(hfalse j hj).elim) h1 h2
 rw [hHn] at g1 g2 g3 g5
 rw [hSn] at g3
 exact hQ a' w' φ' g1 (cj.drew.trans g2) g3 g4 g5
end Go.Proofs.Ev
