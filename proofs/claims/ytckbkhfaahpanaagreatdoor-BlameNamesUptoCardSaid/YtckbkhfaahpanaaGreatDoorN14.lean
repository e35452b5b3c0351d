/- Part 14 of the proof that quiltlaw38.BlameNames returns true: no statement of its own. -/
import Derived.Test.YtckbkhfaahpanaaGreatDoorN13
import Derived.Lib.SliceRun
import Derived.Test.YtckbkhfaahpanaaGreatDoorN12
set_option linter.all false
namespace Go.Proofs.Ev
open Go.RowKit
variable {P:Program} {C:Cfg} {N:Low} {φ φ':Phi} {H H':Heap} {w w':World} {k base:Nat}
theorem drawOk_at {ops:Array Oper} {n:Nat} {bef:Nat→Nat→Bool} {cls:Nat→Nat} {dst:Nat→Option Tmp} {val:Nat→AV} {ch:List Nat} {again:Nat→Nat→Option (AV×Heap)} (h:drawOk ops n bef cls dst val ch again=true) {i:Nat} (hi:i<n) {o:Oper} (ho:ops[i]?=some o) :
 (∀e∈o.after,Region.binds .any e=true→e.on<i)∧
 (∀k d,k<n→k≠i→dst k=some d→dst i≠some d∧(d∈looks ops o→bef k i=true∨bef i k=true))∧
 (2≤cls i→cls i≠3→∀k∈ch,k<i→bef k i=true)∧
 (cls i=3→∀j,j<n→bef i j=true→∀k∈ch,k<i→bef k j=true)∧
 (cls i=1→∀p,(p∈ch∨p=n)→(∀k∈ch,(bef k i=true→k<p)∧(bef i k=true→p≤k))→∃v H1,again i p=some (v,H1)∧AV.beq v (val i)=true):=by
 unfold drawOk at h
 rw [List.all_eq_true] at h
 have h:=h i (List.mem_range.2 hi)
 simp only [ho,Bool.and_eq_true,List.all_eq_true,List.mem_range,Bool.or_eq_true,beq_iff_eq,decide_eq_true_eq,Bool.not_eq_true',bne_iff_ne,ne_eq] at h
 obtain ⟨⟨⟨⟨h1,h2⟩,h3⟩,h4⟩,h5⟩:=h
 refine ⟨fun e he hb=>?_,fun k d hk hne hd=>?_,fun h6 h7 k hk hki=>?_,fun h6 j hj hb k hk hki=>?_,fun h6 p hp hw=>?_⟩
 ·rcases h1 e (by simpa using he) with h | h
  ·rw [hb] at h;cases h
  ·exact h
 ·rcases h2 k hk with h | h
  ·exact absurd h hne
  ·rw [hd] at h
   simp only [Bool.and_eq_true,bne_iff_ne,ne_eq,Bool.or_eq_true,Bool.not_eq_true'] at h
   refine ⟨h.1,fun hm=>?_⟩
   rcases h.2 with (h8 | h8) | h8
   ·rw [List.contains_iff_mem.2 hm] at h8;cases h8
   ·exact .inl h8
   ·exact .inr h8
 ·rcases h3 with (h | h) | h
  ·omega
  ·exact absurd h h7
  ·rcases h k hk with h | h
   ·omega
   ·exact h
 ·rcases h4 with h | h
  ·simp [h6] at h
  ·rcases h j hj with h | h
   ·rw [hb] at h;cases h
   ·rcases h k hk with h | h
    ·omega
    ·exact h
 ·rcases h5 with h | h
  ·simp [h6] at h
  ·have hpm:p∈ch++[n]:=by simpa using hp
   rcases h p hpm with h | h
   ·exfalso
    have:(ch.all fun k=>(!bef k i||decide (k<p))&&(!bef i k||decide (p≤k)))=true:=by
     rw [List.all_eq_true]
     intro k hk
     obtain ⟨h8,h9⟩:=hw k hk
     cases hb1:bef k i<;>cases hb2:bef i k<;>simp [hb1,hb2] at h8 h9 ⊢<;>omega
    rw [this] at h
    cases h
   ·split at h
    ·rename_i v H1 he
     exact ⟨v,H1,he,h⟩
    ·cases h
theorem region_draw (hmix:P.follows .mixedOrders=true) (hstep:StepOK P C N k) {id:Nat} {ops:Array Oper} {s s':List AV} {tr:List Tr} (hrt:runT P ops (fun o s H=>stepA P C k base ops o s H) ops.toList s H=some (tr,s',H'))
 (hok:drawOkT ops tr H' (fun o s H=>stepA P C k base ops o s H)=true) {a:Act} {r:Option Nat} {B0:Nat} (hbase:base≤H.length) (hH:HR N φ H w) (hs:SlotsAt φ H.length w s a.tmps) (hm:Marks B0 φ w a.defers) (hr:RoundOK r w)
 {Q:Exit→Act→World→Prop} (hQ:∀a' w' φ',HR N φ' H' w'→Ext φ H.length w φ' H'.length w'→SlotsAt φ' H'.length w' s' a'.tmps→Marks B0 φ' w' a'.defers→(∀b,b<base→H'[b]?=H[b]?)→Q .normal a' w'):(Code.region id ops true).wpIn (Fw r) 0 P Q a w:=by
 obtain ⟨hlen,S,Hp,hS0,hH0,hSn,hHn,hst⟩:=runT_spec _ _ _ _ _ _ hrt
 have hsz:ops.toList.length=ops.size:=by simp
 rw [hsz] at hlen hSn hHn
 have hget:∀{i:Nat} {o:Oper},ops[i]?=some o→ops.toList[i]?=some o:=fun h=>by rw [Array.getElem?_toList];exact h
 unfold drawOkT at hok
 simp only at hok
 have hch:∀{j:Nat},j∈(List.range tr.length).filter (fun i=>2≤(tr.getD i default).c)↔j<ops.size∧2≤(tr.getD j default).c:=by
  intro j;rw [List.mem_filter,List.mem_range,hlen];simp
 have hi':∀{i:Nat},i<ops.size→i<tr.length:=fun h=>by rw [hlen];exact h
 have D:Draw P C k base ops (fun m i=>(((befGo ops.toList []).getD i 0).testBit m)=true) S Hp (fun i=>(tr.getD i default).v) (fun i=>(tr.getD i default).c):=by
  refine ⟨fun m i hb=>befGo_spec ops.toList [] (by simp) (fun j m hj=>by simp at hj) i m hb,fun i o ho=>(hst i o (hget ho)).2.2.1,fun i o ho=>(hst i o (hget ho)).2.2.2.1,fun i o ho=>(hst i o (hget ho)).2.2.2.2,
   fun i o ho=>(drawOk_at hok (hi' (op_lt ho)) ho).1,fun i m o o' t ho ho' hne hd hd'=>?_,fun i m o o' t ho ho' hne hd hl=>?_,fun i hi h2 h3 m hm h4=>?_,fun i hi h3 j hj hb m hm h4=>?_,fun i o ho h1 p hp hw=>?_⟩
  ·have:=((drawOk_at hok (hi' (op_lt ho)) ho).2.1 m t (hi' (op_lt ho')) hne (by rw [ho'];exact hd)).1
   rw [ho] at this
   exact this hd'
  ·exact ((drawOk_at hok (hi' (op_lt ho)) ho).2.1 m t (hi' (op_lt ho')) hne (by rw [ho'];exact hd)).2 hl
  ·obtain ⟨o,ho⟩:=get_op hi
   exact (drawOk_at hok (hi' hi) ho).2.2.1 h2 h3 m (hch.2 ⟨by omega,h4⟩) hm
  ·obtain ⟨o,ho⟩:=get_op hi
   exact (drawOk_at hok (hi' hi) ho).2.2.2.1 h3 j (hi' hj) hb m (hch.2 ⟨by omega,h4⟩) hm
  ·obtain ⟨v,H1,h2,h3⟩:=(drawOk_at hok (hi' (op_lt ho)) ho).2.2.2.2 h1 p (by
    rcases hp with h | h
    ·exact .inr (by rw [hlen];exact h)
    ·exact .inl (hch.2 h)) fun m hm=>hw m (hch.1 hm).1 (hch.1 hm).2
   rw [ho] at h2
   simp only at h2
   refine ⟨H1,?_⟩
   rw [←beq_eq _ _ h3,←(hst i o (hget ho)).1]
   have hpp:(if p<tr.length then (tr.getD p default).h else H')=Hp p:=by
    rcases hp with h | h
    ·rw [if_neg (by omega),h,hHn]
    ·rw [if_pos (by omega)]
     obtain ⟨o',ho'⟩:=get_op h.1
     exact (hst p o' (hget ho')).2.1
   rw [←hpp]
   exact h2
 refine wpIn_region_any hmix ?_
 change wpAnyIn (Fw r) 0 P .any ops Q ops.size (Array.replicate ops.size false) a w.drew
 have hfalse:∀i,(Array.replicate ops.size false).getD i false=true→False:=fun i hi=>by
  simp only [Array.getD_eq_getD_getElem?,Array.getElem?_replicate] at hi
  split at hi<;>cases hi
 have hinit:St N base B0 φ H w.drew ops S Hp (fun i=>(tr.getD i default).v) (fun i=>(tr.getD i default).c) (Array.replicate ops.size false) 0 (fun _=>none) φ a w.drew:=by
  refine ⟨by simp,Nat.zero_le _,fun m hm=>by omega,fun m _ _ _ hl=>(hfalse m hl).elim,fun m cb hm=>(by cases hm),fun m m' cb hm=>(by cases hm),fun x=>⟨.inl,fun h=>h.elim (fun h=>h) fun ⟨_,h⟩=>(by cases h)⟩,by rw [hH0];exact hH.drew,by rw [hH0];exact Ext.refl.toR,by rw [hS0];exact hs.1,
   fun t x hx _=>?_,fun m o t _ hl=>(hfalse m hl).elim,hm.mono (Ext.drew (n:=H.length)),fun b _=>by rw [hH0]⟩
  rw [hS0] at hx
  rw [hH0]
  obtain ⟨V,h1,h2⟩:=hs.2 t x hx
  exact ⟨V,h1,h2.mono Ext.drew⟩
 obtain ⟨p,pd,ψ,h1,h2⟩:=St.advance D hH.drew.low hbase _ 0 _ _ (Nat.le_refl _) hinit
 refine draw_any hstep D hH.drew hbase (hr.mono (φ':=φ) (n:=H.length) (n':=H.length) Ext.drew) (fun a' w' φ' g1 g2 g3 g4 g5=>?_) ops.size _ p pd ψ a w.drew (unl_start _ _) (fun j o _ hj=>(hfalse j hj).elim) h1 h2
 rw [hHn] at g1 g2 g3 g5
 rw [hSn] at g3
 exact hQ a' w' φ' g1 (Ext.drew.trans g2) g3 g4 g5
end Go.Proofs.Ev
namespace Go.Proofs.Ev
open Go.RowKit
variable {P:Program} {C:Cfg} {N:Low} {φ φ':Phi} {H H':Heap} {w w':World} {n:Nat}
def LoopOK (P:Program) (C:Cfg) (N:Low) (k:Nat):Prop :=
 ∀base c s H e s' H',codeA P C k base (.loop c) s H=some (e,s',H')→∀{φ w} {a:Act} {r B},base≤H.length→HR N φ H w→SlotsAt φ H.length w s a.tmps→Marks B φ w a.defers→B≤w.heap.size→RoundOK r w→
  ∀Q:Exit→Act→World→Prop,(∀a' w' φ',HR N φ' H' w'→Ext φ H.length w φ' H'.length w'→SlotsAt φ' H'.length w' s' a'.tmps→Marks B φ' w' a'.defers→(∀b,b<base→H'[b]?=H[b]?)→Q e.toExit a' w')→Code.roundsIn (Fw r) 0 P c Q k a w
theorem loop_ok {k:Nat} (hcode:CodeOK P C N k) (hloop:LoopOK P C N k):LoopOK P C N (k+1):=by
 intro base c s H e s' H' h φ w a r B hbase hH hs hm hB hr Q hQ
 rw [roundsIn_succ]
 simp only [codeA] at h
 cases hc:codeA P C k base c s H with
 | none=>rw [hc] at h;cases h
 | some x =>
  obtain ⟨e1,s1,H1⟩:=x
  rw [hc] at h
  refine hcode base c s H e1 s1 H1 hc hbase hH hs hm hB hr _ fun a1 w1 φ1 h1 hx1 hs1 hm1 hl1=>?_
  cases e1 with
  | normal =>
   simp only at h
   exact hloop base c s1 H1 e s' H' h (Nat.le_trans hbase hx1.le) h1 hs1 hm1 (Nat.le_trans hB hx1.size) (hr.mono hx1) Q
    fun a' w' φ' h2 hx2 hs2 hm2 hl2=>hQ a' w' φ' h2 (hx1.trans hx2) hs2 hm2 fun b hb=>(hl2 b hb).trans (hl1 b hb)
  | exit id=>simp only [Option.some.injEq,Prod.mk.injEq] at h;obtain ⟨rfl,rfl,rfl⟩:=h;exact hQ a1 w1 φ1 h1 hx1 hs1 hm1 hl1
  | ret=>simp only [Option.some.injEq,Prod.mk.injEq] at h;obtain ⟨rfl,rfl,rfl⟩:=h;exact hQ a1 w1 φ1 h1 hx1 hs1 hm1 hl1
theorem end_loop (hH:HR N φ H w) {b:Nat} {L:Loc} (hL:φ b=some L) {rec rec':Loop} (hl:w.heap[L.cb]?=some (.loop rec)) :
 HR N (delLoc φ b) (H.set b .dead) (putBlk w L.cb (.loop rec'))∧Ext φ H.length w (delLoc φ b) (H.set b .dead).length (putBlk w L.cb (.loop rec')):=by
 have hd:HR N (delLoc φ b) (H.set b .dead) w:=hH.del b
 have hnl:NotLive (delLoc φ b) L.cb:=by
  refine ⟨fun k L' hL' e=>?_,hH.resn b L hL⟩
  simp only [delLoc] at hL'
  split at hL'
  ·cases hL'
  ·rename_i hne;exact hne (hH.inj k b L' L hL' hL e)
 refine ⟨hd.putObj hl (by intro c T fr e;cases e) hnl,?_⟩
 refine ⟨by simp,by simp,fun k hk L' hL'=>?_,fun cb o hc hn=>(putBlk_other (hn.1 b L hL)).trans hc,fun cb hcb hn=>?_,fun cb r hr=>?_,rfl,fun cb o hr hc=>(putBlk_other fun e=>hH.resn b L hL (by rw [e];exact hr)).trans hc,.refl⟩
 ·simp only [delLoc] at hL'
  split at hL'
  ·cases hL'
  ·exact ⟨L',hL',Nat.le_refl _,fun _=>rfl⟩
 ·refine ⟨fun k L' hL'=>?_,hn.2⟩
  simp only [delLoc] at hL'
  split at hL'
  ·cases hL'
  ·exact hn.1 k L' hL'
 ·by_cases e:L.cb=cb
  ·subst e;exact ⟨rec',putBlk_same (Array.getElem?_eq_some_iff.1 hr).1⟩
  ·exact ⟨r,(putBlk_other e).trans hr⟩
theorem code_ok {k:Nat} (hS:C.Sound P N) (hcode:CodeOK P C N k) (hseq:SeqOK P C N k) (hstep:StepOK P C N k) (hfunc:FuncOK P C N k) (hloop:LoopOK P C N (k+1)):CodeOK P C N (k+1):=by
 intro base c s H e s' H' h φ w a r B hbase hH hs hm hB hr Q hQ
 cases c with
 | skip=>simp only [codeA,Option.some.injEq,Prod.mk.injEq] at h;obtain ⟨rfl,rfl,rfl⟩:=h;exact wpIn_skip (hQ a w φ hH .refl hs hm fun _ _=>rfl)
 | label l=>simp only [codeA,Option.some.injEq,Prod.mk.injEq] at h;obtain ⟨rfl,rfl,rfl⟩:=h;exact wpIn_label (hQ a w φ hH .refl hs hm fun _ _=>rfl)
 | ret=>simp only [codeA,Option.some.injEq,Prod.mk.injEq] at h;obtain ⟨rfl,rfl,rfl⟩:=h;exact wpIn_ret (hQ a w φ hH .refl hs hm fun _ _=>rfl)
 | exit id=>simp only [codeA,Option.some.injEq,Prod.mk.injEq] at h;obtain ⟨rfl,rfl,rfl⟩:=h;exact wpIn_exit (hQ a w φ hH .refl hs hm fun _ _=>rfl)
 | goto l=>simp [codeA] at h
 | scope b=>simp [codeA] at h
 | refuse y=>simp [codeA] at h
 | seq x y =>
  simp only [codeA] at h
  cases hc:codeA P C k base x s H with
  | none=>rw [hc] at h;cases h
  | some p =>
   obtain ⟨e1,s1,H1⟩:=p
   rw [hc] at h
   refine wpIn_seq (hcode base x s H e1 s1 H1 hc hbase hH hs hm hB hr _ fun a1 w1 φ1 h1 hx1 hs1 hm1 hl1=>?_)
   cases e1 with
   | normal =>
    simp only at h
    exact hcode base y s1 H1 e s' H' h (Nat.le_trans hbase hx1.le) h1 hs1 hm1 (Nat.le_trans hB hx1.size) (hr.mono hx1) Q
     fun a' w' φ' h2 hx2 hs2 hm2 hl2=>hQ a' w' φ' h2 (hx1.trans hx2) hs2 hm2 fun b hb=>(hl2 b hb).trans (hl1 b hb)
   | exit id=>simp only [Option.some.injEq,Prod.mk.injEq] at h;obtain ⟨rfl,rfl,rfl⟩:=h;exact hQ a1 w1 φ1 h1 hx1 hs1 hm1 hl1
   | ret=>simp only [Option.some.injEq,Prod.mk.injEq] at h;obtain ⟨rfl,rfl,rfl⟩:=h;exact hQ a1 w1 φ1 h1 hx1 hs1 hm1 hl1
 | cond x y z =>
  simp only [codeA] at h
  have hx:=operand_rel hs x
  split at h
  ·rename_i hv
   rw [hv] at hx
   generalize hX:a.eval x=X at hx
   cases hx
   exact wpIn_cond_true hX (hcode base y s H e s' H' h hbase hH hs hm hB hr Q hQ)
  ·rename_i hv
   rw [hv] at hx
   generalize hX:a.eval x=X at hx
   cases hx
   exact wpIn_cond_false hX (hcode base z s H e s' H' h hbase hH hs hm hB hr Q hQ)
  ·cases h
 | block id b =>
  simp only [codeA] at h
  cases hc:codeA P C k base b s H with
  | none=>rw [hc] at h;cases h
  | some p =>
   obtain ⟨e1,s1,H1⟩:=p
   rw [hc] at h
   refine wpIn_block (hcode base b s H e1 s1 H1 hc hbase hH hs hm hB hr _ fun a1 w1 φ1 h1 hx1 hs1 hm1 hl1=>?_)
   cases e1 with
   | normal=>simp only [Option.some.injEq,Prod.mk.injEq] at h;obtain ⟨rfl,rfl,rfl⟩:=h;exact hQ a1 w1 φ1 h1 hx1 hs1 hm1 hl1
   | ret=>simp only [Option.some.injEq,Prod.mk.injEq] at h;obtain ⟨rfl,rfl,rfl⟩:=h;exact hQ a1 w1 φ1 h1 hx1 hs1 hm1 hl1
   | exit i =>
    simp only at h
    simp only [AExit.toExit,Exit.inBlock]
    split at h
    ·rename_i hi
     simp only [Option.some.injEq,Prod.mk.injEq] at h;obtain ⟨rfl,rfl,rfl⟩:=h
     rw [if_pos hi];exact hQ a1 w1 φ1 h1 hx1 hs1 hm1 hl1
    ·rename_i hi
     simp only [Option.some.injEq,Prod.mk.injEq] at h;obtain ⟨rfl,rfl,rfl⟩:=h
     rw [if_neg hi];exact hQ a1 w1 φ1 h1 hx1 hs1 hm1 hl1
 | loop b=>exact wpIn_loop_rounds (k+1) (hloop base b s H e s' H' h hbase hH hs hm hB hr Q hQ)
 | region id ops draw =>
  cases draw with
  | true =>
   simp only [codeA] at h
   split at h
   ·rename_i tr s1 H1 hrt
    split at h
    ·rename_i hok
     simp only [Option.some.injEq,Prod.mk.injEq] at h;obtain ⟨rfl,rfl,rfl⟩:=h
     exact region_draw hS.mixed hstep hrt hok hbase hH hs hm hr hQ
    ·cases h
   ·cases h
  | false =>
   simp only [codeA] at h
   cases hc:seqA P C k base ops ops.toList s H with
   | none=>rw [hc] at h;cases h
   | some p =>
    obtain ⟨s1,H1⟩:=p
    rw [hc] at h
    simp only [Option.some.injEq,Prod.mk.injEq] at h;obtain ⟨rfl,rfl,rfl⟩:=h
    refine wpIn_region (hseq base ops ops.toList s H s1 H1 hc (List.range ops.size) ?_ hbase hH hs hm hB hr Q hQ)
    apply List.ext_getElem?
    intro i
    rw [List.getElem?_map,List.getElem?_map]
    rcases Nat.lt_or_ge i ops.size with hi | hi
    ·rw [List.getElem?_range hi,Array.getElem?_toList];simp [hi]
    ·rw [List.getElem?_eq_none (by simpa using hi),List.getElem?_eq_none (by simpa using hi)];rfl
 | rangeFunc g ps assign body =>
  simp only [codeA] at h
  have hg:=operand_rel hs g
  split at h
  ·rename_i f caps hv
   rw [hv] at hg
   cases hf:funcA P C k base f (.yld H.length::caps) (H++[.loop true none s ps.toList assign body]) with
   | none=>rw [hf] at h;cases h
   | some p =>
    obtain ⟨v2,H2⟩:=p
    rw [hf] at h
    simp only at h
    obtain ⟨hent,hcall⟩:=hfunc base f _ _ v2 H2 hf
    generalize hG:a.eval g=G at hg
    cases hg with
    | fn hlc hcaps =>
    rename_i Cs
    have enter:∀(w1:World) (l:Nat) (mark:List Deferred) (dfr:Nat) (fid:FuncId),HR N (addLoc φ H.length ⟨0,l,0⟩) (H++[.loop true none s ps.toList assign body]) w1→Ext φ H.length w (addLoc φ H.length ⟨0,l,0⟩) (H.length+1) w1→
     Marks B (addLoc φ H.length ⟨0,l,0⟩) w1 (mark++a.defers)→
     CallsIn (Fw r) 0 P f (#[Value.func (Fn.yield l) #[] #[]]++Cs) w1 (rangePost (Fw r) 0 P l Q { a with defers:=mark++a.defers }):=by
     intro w1 l mark dfr fid h1 hx1 hm1
     have hargs:Two (fun v V=>RV (addLoc φ H.length ⟨0,l,0⟩) (H++[Blk.loop true none s ps.toList assign body]).length w1 v V) (.yld H.length::caps) (#[Value.func (Fn.yield l) #[] #[]]++Cs).toList:=by
      rw [Array.toList_append]
      refine .cons (.yld (by simp) fun L hL _=>?_) (Two.of_get (by simp [hlc]) fun i x y hx hy=>?_)
      ·simp only [addLoc,if_true,Option.some.injEq] at hL;subst hL;rfl
      ·exact (hcaps i x y hx (by simpa using hy)).mono (by simpa using hx1)
     refine callsIn_any ((hcall (by simpa using Nat.le_succ_of_le hbase) h1 hargs).mono ?_)
     rintro e2 w2 ⟨V,φ2,rfl,hv2,h2,hx2,hl2⟩
     have hlow:∀b,b<base→(H2.set H.length .dead)[b]?=H[b]?:=by
      intro b hb
      rw [List.getElem?_set_ne (by omega),hl2 b hb,List.getElem?_append_left (by omega)]
     have hxx:Ext φ H.length w φ2 H2.length w2:=hx1.trans (by simpa using hx2)
     have finish:∀ready pend sl p1 a1 b1,H2[H.length]?=some (.loop ready pend sl p1 a1 b1)→(ready=true∧pend=none∨ready=false∧pend≠none)→
      ∃w3,(Instr.endLoop l).run P w2=.ok pend w3∧∃φ3,HR N φ3 (H2.set H.length .dead) w3∧Ext φ H.length w φ3 (H2.set H.length .dead).length w3∧Marks B φ3 w3 (mark++a.defers):=by
      intro ready pend sl p1 a1 b1 hblk hst
      obtain ⟨L,rec,g1,g2,g3,g4,g5,g6,g7,g8,g9⟩:=h2.loop _ _ _ _ _ _ _ hblk
      have hcb:L.cb=l:=by
       obtain ⟨L0,e1,e2,e3⟩:=hx2.loc H.length (by simp) L g1
       simp only [addLoc,if_true,Option.some.injEq] at e1
       subst e1
       rw [←e3 (by simp;omega)]
      have hnb:rec.state≠.busy:=by
       rw [g4]
       rcases hst with ⟨rfl,rfl⟩ | ⟨rfl,hp⟩
       ·simp
       ·cases pend with
        | none=>exact absurd rfl hp
        | some c=>simp
      obtain ⟨r1,r2⟩:=end_loop h2 g1 (rec':={ rec with state:=.exhausted }) g3
      refine ⟨putBlk w2 L.cb (.loop { rec with state:=.exhausted }),?_,delLoc φ2 H.length,r1,hxx.trans r2,?_⟩
      ·rw [←hcb,←g5];exact run_endLoop g3 hnb
      ·exact (hm1.mono hx2).mono r2
     split at h
     ·rename_i sl p1 a1 b1 hblk
      simp only [Option.some.injEq,Prod.mk.injEq] at h;obtain ⟨rfl,rfl,rfl⟩:=h
      obtain ⟨w3,k1,φ3,k2,k3,k4⟩:=finish _ _ _ _ _ _ hblk (.inl ⟨rfl,rfl⟩)
      exact ⟨none,w3,k1,hQ _ w3 φ3 k2 k3 (hs.mono k3) k4 hlow⟩
     ·rename_i c sl p1 a1 b1 hblk
      obtain ⟨w3,k1,φ3,k2,k3,k4⟩:=finish _ _ _ _ _ _ hblk (.inr ⟨rfl,by simp⟩)
      refine ⟨some c,w3,k1,?_⟩
      refine hcode base c s _ e s' H' h (a:={ a with defers:=mark++a.defers }) (by simpa using Nat.le_trans hbase hxx.le) k2 (hs.mono k3) k4 (Nat.le_trans hB k3.size) (hr.mono k3) Q ?_
      intro a' w' φ' h4 hx4 hs4 hm4 hl4
      exact hQ a' w' φ' h4 (k3.trans hx4) hs4 hm4 fun b hb=>(hl4 b hb).trans (hlow b hb)
     ·cases h
    refine wpIn_rangeFunc fun fid _=>?_
    have hres:∀(l:Nat) (w1:World),(resolve a.eval (rangeCall g l) 0).run P w1=.ok { target:=.fn (.func f) Cs,args:=#[Value.func (Fn.yield l) #[] #[]] } w1:=by
     intro l w1
     simp only [resolve]
     rw [hG]
     simp [Deferred.ofValue,Act.eval]
    have hinv:∀(l:Nat) (w1:World),(invoke (.fn (.func f) Cs) #[Value.func (Fn.yield l) #[] #[]]).run P w1=.ok (.enter f (#[Value.func (Fn.yield l) #[] #[]]++Cs)) w1:=by
     intro l w1
     simp only [invoke,hent]
    cases r with
    | none =>
     have hrec:HR N (addLoc φ H.length ⟨0,w.heap.size+1,0⟩) (H++[.loop true none s ps.toList assign body]) ((w.alloc (.deferred (some []))).alloc (.loop { state:=.ready,pending:=none,fn:=fid,tmps:=a.tmps,params:=ps,assign,body,defers:=w.heap.size })):=by
      have h0:=hH.alloc_out (.deferred (some []))
      have:=h0.alloc (.loop { state:=.ready,pending:=none,fn:=fid,tmps:=a.tmps,params:=ps,assign,body,defers:=w.heap.size }) 0 0 (.loop true none s ps.toList assign body) (by simp) (by simp) (by simp)
       (by intro _ _ _ _ _ _ e';cases e';exact ⟨_,rfl,rfl,by simp,rfl,rfl,rfl,rfl,hs.mono (Ext.alloc_out _)⟩)
      simpa using this
     have hx:Ext φ H.length w (addLoc φ H.length ⟨0,w.heap.size+1,0⟩) (H.length+1) ((w.alloc (.deferred (some []))).alloc (.loop { state:=.ready,pending:=none,fn:=fid,tmps:=a.tmps,params:=ps,assign,body,defers:=w.heap.size })):=by
      have h1:Ext φ H.length w φ H.length (w.alloc (.deferred (some []))):=Ext.alloc_out _
      have h2:=h1.trans (Ext.alloc (.loop { state:=.ready,pending:=none,fn:=fid,tmps:=a.tmps,params:=ps,assign,body,defers:=w.heap.size }) 0 0)
      simpa using h2
     refine ⟨w.heap.size+1,[{ target:=.collected w.heap.size,args:=#[] }],_,_,_,f,_,_,run_enterLoop_outer _ _ _ _ _,hres _ _,fun _ _=>trivial,hinv _ _,fun hd=>by simp [Fw,Fence.wide] at hd,enter _ _ _ 0 fid hrec hx ?_⟩
     refine .cons hB ?_ ?_ ?_ (hm.mono hx)
     ·exact (heap_alloc_old (by simp)).trans heap_alloc_new
     ·refine ⟨fun k L hL=>?_,fun hres=>by have:=hH.ress _ hres;simp at this⟩
      simp only [addLoc] at hL
      split at hL
      ·cases hL;simp
      ·exact hH.fresh_cb hL
     ·intro d hd ht
      have:∀{ds:List Deferred},Marks B φ w ds→∀d∈ds,d.target≠Target.collected w.heap.size:=by
       intro ds hmk
       induction hmk with
       | nil=>intro d hd;simp at hd
       | cons _ hk _ _ _ ih =>
        intro d hd
        rcases List.mem_cons.1 hd with rfl | hd
        ·intro e';cases e';have:=(Array.getElem?_eq_some_iff.1 hk).1;omega
        ·exact ih d hd
      exact this hm d hd ht
    | some l0 =>
     obtain ⟨rec0,hrec0⟩:=hr l0 rfl
     have hrec:HR N (addLoc φ H.length ⟨0,w.heap.size,0⟩) (H++[.loop true none s ps.toList assign body]) (w.alloc (.loop { state:=.ready,pending:=none,fn:=fid,tmps:=a.tmps,params:=ps,assign,body,defers:=rec0.defers })) :=
      hH.alloc _ 0 0 (.loop true none s ps.toList assign body) (by simp) (by simp) (by simp)
       (by intro _ _ _ _ _ _ e';cases e';exact ⟨_,rfl,rfl,by simp,rfl,rfl,rfl,rfl,hs⟩)
     refine ⟨w.heap.size,[],_,_,_,f,_,_,run_enterLoop_inner hrec0 _ _ _ _ _,hres _ _,fun _ _=>trivial,hinv _ _,fun hd=>by simp [Fw,Fence.wide] at hd,enter _ _ _ 0 fid hrec (Ext.alloc _ 0 0) (hm.mono (Ext.alloc _ 0 0:Ext φ H.length w _ _ _))⟩
  ·cases h
theorem all_ok (hS:C.Sound P N):∀k,CodeOK P C N k∧SeqOK P C N k∧StepOK P C N k∧CallOK P C N k∧FuncOK P C N k∧LoopOK P C N k:=by
 intro k
 induction k with
 | zero =>
  refine ⟨?_,?_,?_,?_,?_,?_⟩
  ·intro base c s H e s' H' h;simp [codeA] at h
  ·intro base ops l s H s' H' h;simp [seqA] at h
  ·intro base ops o s H v H' h;simp [stepA] at h
  ·intro base f args H v H' h;unfold callA at h;cases h
  ·intro base f args H v H' h;simp [funcA] at h
  ·intro base c s H e s' H' h;simp [codeA] at h
 | succ k ih =>
  obtain ⟨h1,h2,h3,h4,h5,h6⟩:=ih
  have hl:=loop_ok h1 h6
  exact ⟨code_ok hS h1 h2 h3 h5 hl,seq_ok h3 h2,step_ok hS h4,call_ok h5 h1,func_ok hS h1,hl⟩
end Go.Proofs.Ev
namespace Go.Proofs.Ev
open Go.Proofs
variable {N:Low} {φ:Phi} {H:Heap} {w w':World}
set_option maxRecDepth 100000 in
set_option maxHeartbeats 1000000 in
theorem call_clone (a:Addr) (cap:Nat):CallsIn (Fw none) 0 Tryz.prog 131 #[.slice (some a) 0 cap] w fun e w2=>e=.returned (.slice (some ⟨w.heap.size,0,none⟩) 0 0)∧w2=w.alloc (Obj.cells #[] 25):=by
 refine callsIn_of_wp Tryz.func131 rfl trivial ?_ rfl
 have hn:Tryz.f131.ntmps=8:=rfl
 simp only [hn,List.size_toArray,List.length_cons,List.length_nil,Nat.reduceAdd,Nat.reduceSub,Array.replicate_succ,Array.replicate_zero,List.push_toArray,List.append_toArray,List.nil_append,List.cons_append]
 gi_wp2
 rw [Lib.run_eql_slice_nil w 60 25 (some a) 0 cap 0 0 (by kernel_rfl)]
 simp only [Result.andThen,Option.isNone]
 gi_wp2
 go_ret
 exact ⟨rfl,rfl⟩
set_option maxRecDepth 100000 in
set_option maxHeartbeats 1000000 in
theorem call_clone0 (cap:Nat):CallsIn (Fw none) 0 Tryz.prog 131 #[.slice none 0 cap] w fun e w2=>e=.returned (.slice none 0 0)∧w2=w:=by
 refine callsIn_of_wp Tryz.func131 rfl trivial ?_ rfl
 have hn:Tryz.f131.ntmps=8:=rfl
 simp only [hn,List.size_toArray,List.length_cons,List.length_nil,Nat.reduceAdd,Nat.reduceSub,Array.replicate_succ,Array.replicate_zero,List.push_toArray,List.append_toArray,List.nil_append,List.cons_append]
 gi_wp2
 rw [Lib.run_eql_slice_nil w 60 25 none 0 cap 0 0 (by kernel_rfl)]
 simp only [Result.andThen,Option.isNone]
 gi_wp2
 go_ret
 exact ⟨rfl,rfl⟩
def cfg0:Cfg:=⟨fun _=>none,fun _=>false,fun _=>false,fun _=>none⟩
theorem names_ok:∀(f:Nat) (fn:Func),Tryz.prog.funcs[f]?=some fn→fn.body.isSome=true→(fn.name== "runtime.NumGoroutine")=false:=by
 have h:Tryz.prog.funcs.all (fun fn=>!(fn.body.isSome&&fn.name== "runtime.NumGoroutine"))=true:=by kernel_rfl
 intro f fn hf hb
 obtain ⟨hi,rfl⟩:=Array.getElem?_eq_some_iff.1 hf
 have:=(Array.all_eq_true.1 h) f hi
 rw [hb] at this
 simpa using this
theorem cfg0_sound {N:Low} (hT:TagOK Tryz.prog N):cfg0.Sound Tryz.prog N:=⟨⟨fun _ _ h=>by cases h⟩,by kernel_rfl,hT,names_ok,fun _ _ h=>by cases h⟩
open Classical in
noncomputable def evalP (P:Program) (C:Cfg) (f:FuncId) (base:Nat) (args:List AV) (H:Heap):Option (AV×Heap) :=
 if h:∃r,∃n,funcA P C n base f args H=some r then some (Classical.choose h) else none
theorem evalP_some {P:Program} {C:Cfg} {f:FuncId} {base:Nat} {args:List AV} {H:Heap} {r:AV×Heap} (h:evalP P C f base args H=some r):∃n,funcA P C n base f args H=some r:=by
 unfold evalP at h
 split at h
 ·rename_i h0
  cases h
  exact Classical.choose_spec h0
 ·cases h
theorem evalP_eq {P:Program} {C:Cfg} {f:FuncId} {base:Nat} {args:List AV} {H:Heap} {v:AV} {H':Heap} (h:FuncW P C base f args H fun v' X=>v'=v∧X=H'):evalP P C f base args H=some (v,H'):=by
 obtain ⟨n,v1,X,h1,rfl,rfl⟩:=h
 have h0:∃r,∃n,funcA P C n base f args H=some r:=⟨_,n,h1⟩
 unfold evalP
 rw [dif_pos h0]
 obtain ⟨m,h2⟩:=Classical.choose_spec h0
 have e1:=funcA_mono (Nat.le_max_left n m) h1
 have e2:=funcA_mono (Nat.le_max_right n m) h2
 rw [e1] at e2
 rw [←Option.some.inj e2]
theorem evalP_ok {P:Program} {C:Cfg} {N:Low} (hC:C.Sound P N) {f:FuncId} (hb:∃fn:Func,P.funcs[f]?=some fn∧fn.body.isSome=true):PrimOK P N f (evalP P C f):=by
 refine ⟨hb,fun base args H v H' h φ w Vs hbs hH ht=>?_⟩
 obtain ⟨n,h1⟩:=evalP_some h
 exact ((all_ok hC n).2.2.2.2.1 base _ args H v H' h1).2 hbs hH ht
noncomputable def pClone (base:Nat) (args:List AV) (H:Heap):Option (AV×Heap) :=
 match args with
 | [.lst [] _]=>some (.lst [] true,H)
 | [.nils]=>some (.lst [] true,H)
 | _=>evalP Tryz.prog cfg0 131 base args H
theorem clone_ok {N:Low} (hT:TagOK Tryz.prog N):PrimOK Tryz.prog N 131 pClone:=by
 refine ⟨⟨_,Tryz.func131,rfl⟩,fun base args H v H' h φ w Vs hb hH ht=>?_⟩
 unfold pClone at h
 split at h
 ·rename_i e
  cases h
  obtain ⟨X,rfl,h1⟩:=two_one ht
  cases h1 with
  | lst Vs esz hlen hcap he hb hr =>
   rename_i bs len cap
   have hl0:len=0:=hlen
   subst hl0
   cases bs with
   | none =>
    refine (call_clone0 cap).mono ?_
    rintro e w' ⟨rfl,rfl⟩
    exact ⟨_,φ,rfl,.lst (fun _ _=>.pointer none) 0 rfl (Nat.le_refl _) (fun _=>rfl) (fun h=>absurd rfl h) (fun i row hi=>by simp at hi),hH,Ext.refl,fun _ _=>rfl⟩
   | some a =>
    refine (call_clone a cap).mono ?_
    rintro e w' ⟨rfl,rfl⟩
    exact ⟨_,φ,rfl,.lst (fun _ _=>.pointer none) 0 rfl (Nat.le_refl _) (fun _=>rfl) (fun h=>absurd rfl h) (fun i row hi=>by simp at hi),hH.alloc_out _,Ext.alloc_out _,fun _ _=>rfl⟩
 ·cases h
  obtain ⟨X,rfl,h1⟩:=two_one ht
  cases h1
  refine (call_clone0 0).mono ?_
  rintro e w' ⟨rfl,rfl⟩
  exact ⟨_,φ,rfl,.lst (fun _ _=>.pointer none) 0 rfl (Nat.le_refl _) (fun _=>rfl) (fun h=>absurd rfl h) (fun i row hi=>by simp at hi),hH,Ext.refl,fun _ _=>rfl⟩
 ·exact (evalP_ok (cfg0_sound hT) ⟨_,Tryz.func131,rfl⟩).2 base args H v H' h φ w Vs hb hH ht
end Go.Proofs.Ev
namespace Go.Proofs.Ev
open Go.Proofs
variable {C:Cfg}
structure PatchV.Fit (p:PatchV):Prop where
 ok:p.Ok
 ok2:p.Ok2
 deps:p.deps.length≤1000
 changes:p.changes.length≤1000
 over:∀c∈p.changes,c.over.length≤400
 atoms:(checkL p).length≤2^20
 atomOver:∀x∈checkL p,x.over.length≤2^10
theorem nodess_le {b:Nat}:∀{l:List SX},(∀x∈l,x.nodes≤b)→SX.nodess l≤b*l.length
 | [],_=>by simp [SX.nodess]
 | x::l,h=>by
  have:=nodess_le (l:=l) fun y hy=>h y (by simp [hy])
  have:=h x (by simp)
  simp only [SX.nodess,List.length_cons,Nat.mul_add];omega
theorem nodess_append:∀a b:List SX,SX.nodess (a++b)=SX.nodess a+SX.nodess b
 | [],b=>by simp [SX.nodess]
 | x::a,b=>by simp only [List.cons_append,SX.nodess,nodess_append a b];omega
theorem nodes_list (l:List SX) (k:SK):(listX l k).nodes=SX.nodess l+1:=rfl
theorem nodes_atom (s:List UInt8):(atomX s).nodes=1:=rfl
theorem nodes_num (n:Int):(numX n).nodes=1:=rfl
theorem nodes_dig (d:List Nat):(digX d).nodes=1:=by unfold digX;split<;>rfl
theorem nodes_ref (x:IdV):(refX x).nodes=3:=by simp [refX,nodes_list,SX.nodess,nodes_dig,nodes_num]
theorem nodes_over (l:List IdV):(overX l).nodes≤3*l.length+1:=by
 have:=nodess_le (l:=l.map refX) (b:=3) fun x hx=>by obtain ⟨y,_,rfl⟩:=List.mem_map.1 hx;rw [nodes_ref];omega
 rw [overX,nodes_list];simp at this;omega
theorem nodes_lines (l:List (List UInt8)):(linesX l).nodes≤l.length+1:=by
 have:=nodess_le (l:=l.map atomX) (b:=1) fun x hx=>by obtain ⟨y,_,rfl⟩:=List.mem_map.1 hx;rw [nodes_atom];omega
 rw [linesX,nodes_list];simp at this;omega
theorem nodes_chg (c:ChV) (h1:c.lines.length≤40) (h2:c.over.length≤40):(chgX c).nodes≤200:=by
 have a1:SX.nodess (chg1 c)≤3:=by unfold chg1;split<;>simp [SX.nodess,nodes_ref]
 have a2:SX.nodess (chg2 c)≤6:=by unfold chg2;repeat' split
                                  all_goals simp [SX.nodess,nodes_ref,nodes_num,nodes_atom]
 have a3:SX.nodess (chg3 c)≤130:=by
  have:=nodes_over c.over
  have:=nodes_lines c.lines
  unfold chg3;repeat' split
  all_goals simp [SX.nodess]
  all_goals omega
 rw [chgX,nodes_list,chgL,SX.nodess,nodess_append,nodess_append,nodes_num];omega
theorem nodes_tree (p:PatchV) (h1:p.deps.length≤20) (h2:p.changes.length≤20) (h3:∀c∈p.changes,c.lines.length≤40∧c.over.length≤40):(treeX p).nodes≤2^40:=by
 have a1:=nodess_le (l:=p.deps.map fun d=>digX d.d) (b:=1) fun x hx=>by obtain ⟨y,_,rfl⟩:=List.mem_map.1 hx;rw [nodes_dig];omega
 have a2:=nodess_le (l:=p.changes.map chgX) (b:=200) fun x hx=>by obtain ⟨y,hy,rfl⟩:=List.mem_map.1 hx;exact nodes_chg y (h3 y hy).1 (h3 y hy).2
 simp only [List.length_map] at a1 a2
 simp only [treeX,nodes_list,SX.nodess,nodes_atom,nodes_num];omega
theorem made_over {c:ChV} {f:Nat}:∀x∈madeV c f,x.over=[]∨x.over=c.over:=by
 intro x hx
 unfold madeV at hx
 repeat' split at hx
 all_goals first
  | (simp only [List.mem_singleton] at hx;subst hx;simp [zeroAt];done)
  | (rcases List.mem_append.1 hx with hx | hx<;>obtain ⟨i,_,rfl⟩:=List.mem_map.1 hx<;>exact .inl rfl)
theorem made_len2 (c:ChV) (f:Nat) (h:c.lines.length≤40):(madeV c f).length≤81:=by
 unfold madeV;repeat' split
 all_goals simp
 all_goals omega
theorem chgE_bound:∀(l:List ChV) (own:List AtV),(∀c∈l,c.lines.length≤40∧c.over.length≤40)→(∀x∈own,x.over.length≤40)→(chgE l own).2.length≤own.length+81*l.length∧∀x∈(chgE l own).2,x.over.length≤40
 | [],own,_,ho=>by simp [chgE];exact ho
 | c::l,own,h,ho=>by
  rw [chgE]
  by_cases h1:fieldsE c≠0
  ·rw [if_pos h1];simp
  ·rw [if_neg h1]
   by_cases h2:refE c own≠0
   ·rw [if_pos h2];simp
   ·rw [if_neg h2]
    have hc:=h c (by simp)
    have hm:=made_len2 c own.length hc.1
    have:=chgE_bound l (own++madeV c own.length) (fun c hc=>h c (by simp [hc])) (by
     intro x hx
     rcases List.mem_append.1 hx with hx | hx
     ·exact ho x hx
     ·rcases made_over x hx with h | h<;>rw [h]
      ·simp
      ·exact hc.2)
    refine ⟨?_,this.2⟩
    have h3:=this.1
    simp only [List.length_append,List.length_cons] at h3 ⊢;omega
theorem fit_of {p:PatchV} (hs:p.Sz) (hg:great16 p=false):p.Fit∧p.deps.length≤20∧p.changes.length≤20∧∀c∈p.changes,c.lines.length≤40∧c.over.length≤40:=by
 unfold great16 at hg
 simp only [Bool.or_eq_false_iff,decide_eq_false_iff_not,Nat.not_lt,List.any_eq_false] at hg
 obtain ⟨h1,⟨_,h2⟩,h3⟩:=hg
 have h4:∀c∈p.changes,c.lines.length≤40∧c.over.length≤40:=by
  intro c hc
  have:=h1 c hc
  simp only [bigC,great4,Bool.or_eq_true,decide_eq_true_eq,not_or,Nat.not_lt] at this
  exact ⟨this.1.1,this.2⟩
 have ha:=hs.author
 have hm:=hs.message
 have hb:=chgE_bound p.changes [] h4 (by simp)
 have hL:checkL p=[]∨checkL p=(chgE p.changes []).2:=by unfold checkL;split<;>simp
 have hok:∀c∈p.changes,c.Ok:=fun c hc=>⟨by have:=(hs.changes c hc).name;omega,by have:=(hs.changes c hc).data;omega,fun x hx=>by have:=(hs.changes c hc).lines x hx;omega,by have:=(h4 c hc).1;omega,by have:=(h4 c hc).2;omega⟩
 refine ⟨⟨⟨by omega,by omega,by omega,by omega,hok⟩,⟨by omega,by omega,fun c hc=>⟨by have:=(h4 c hc).1;omega,by have:=(h4 c hc).2;omega⟩,nodes_tree p h2 h3 h4⟩,by omega,by omega,fun c hc=>by have:=(h4 c hc).2;omega,?_,?_⟩,h2,h3,h4⟩
 ·rcases hL with h | h<;>rw [h]
  ·simp
  ·have:=hb.1;simp at this;omega
 ·intro x hx
  rcases hL with h | h<;>rw [h] at hx
  ·simp at hx
  ·have:=hb.2 x hx;omega
structure SetFit (s:List StoredV):Prop where
 n:s.length≤8
 p:∀x∈s,x.patch.Fit
theorem setFit_of {s:List StoredV} (hs:SetSz s) (hg:heavyB s=false):SetFit s:=by
 unfold heavyB at hg
 simp only [Bool.or_eq_false_iff,decide_eq_false_iff_not,Nat.not_lt,List.any_eq_false] at hg
 obtain ⟨h1,h2,_⟩:=hg
 refine ⟨h2,fun x hx=>(fit_of (hs.p x hx) ?_).1⟩
 have:=h1 x (by rw [List.take_of_length_le (by omega)];exact hx)
 simpa using this
def zeroP:PatchV:=⟨[],[],0,[],.nil,[],.nil⟩
theorem zeroP_fit:zeroP.Fit:=by
 refine (fit_of ⟨by simp [zeroP],by simp [zeroP],by simp [zeroP],by simp [zeroP],by simp [zeroP]⟩ ?_).1
 simp [great16,zeroP,sumP]
end Go.Proofs.Ev
namespace Go.Proofs.Ev
open Go.Proofs
variable {C:Cfg}
theorem ret_ids (S:Setting8 C) (l:List StoredV) (k:SK) (hl:l.length≤2^20):Ret Tryz.prog C 35 [] [slAV k (l.map StoredV.cells)] (slAV (exK l) ((l.map fun x=>x.id).map DigV.cells)):=by
 refine ret_pure (S.pure7 _ (by decide)) fun H=>func_rule Tryz.func35 rfl (S.prim _ (by decide)) (by simp) (by kernel_rfl) ?_
 unfold Tryz.f35
 simp [argS,buildSliceA,fillRows]
 refine loop_count l.length (fun i s H'=>∃J,H'=H++J∧s 0=slAV k (l.map StoredV.cells)∧s 4=.int .i64 i∧GrowX H.length 32 J (s 3) (((l.take i).map fun x=>x.id).map DigV.cells)∧(i=0→s 3=.lst [] true)∧(s 3=.lst [] true∨∃b g l,s 3=.sl b g 32 0 l)) ?_ ?_
 ·exact ⟨[],by simp,rfl,rfl,.lst [],fun _=>rfl,.inl rfl⟩
 rintro i s H' ⟨J,rfl,e0,e4,hg,hz,hz2⟩ hi
 by_cases h:i<l.length
 ·obtain ⟨v',J',ha,hg',hs'⟩:=app_dg (H0:=H) (Z:=H) rfl (Nat.le_refl _) (x:=.lst [l[i].id.cells] true) (ys:=[l[i].id]) hg rfl (by simp;omega)
  have et:(l.take (i+1)).map (fun x=>x.id)=(l.take i).map (fun x=>x.id)++[l[i].id]:=by
   rw [List.take_add_one,List.getElem?_eq_getElem h,List.map_append];rfl
  rw [←et] at hg'
  simp [e0,e4,h,buildSliceA,fillRows,ha,show digest0.length=32 from rfl,wrap_succ h (by omega)]
  exact ⟨by simpa using hg',.inr (hs' (.inl (by simp)))⟩
 ·have h':i=l.length:=by omega
  subst h'
  rw [List.take_length] at hg
  simp [e0,e4]
  have hf:=hg.freezeE (Z:=H) (L:=[]) (k:=H.length) (d:=2) rfl (Nat.le_refl _) (closedss_map DigV.closed _) (fun h=>hz (by simpa using h)) hz2
  rw [List.append_nil] at hf
  rw [hf]
  have hk:exK ((l.map fun x=>x.id).map DigV.cells)=exK l:=by unfold exK;cases l<;>rfl
  rw [hk,List.map_map]
def getP (s:List StoredV) (d:List Nat):PatchV:=match s.find? (fun x=>decide (x.id.d=d)) with | some x=>x.patch | none=>zeroP
def hasS (s:List StoredV) (d:List Nat):Bool:=(s.find? fun x=>decide (x.id.d=d)).isSome
@[simp] theorem zeroP_cells:[AV.str [],.str [],.int .i64 0,.nils,.nils]=zeroP.cells:=rfl
theorem getP_fit {s:List StoredV} (hs:SetFit s) (d:List Nat):(getP s d).Fit:=by
 unfold getP
 split
 ·rename_i x hx;exact hs.p x (List.mem_of_find?_eq_some hx)
 ·exact zeroP_fit
set_option maxHeartbeats 1000000 in
theorem ret_get17 (S:Setting8 C) (l:List StoredV) (k:SK) (d:DigV) (hl:l.length≤2^20):Ret Tryz.prog C 182 [] [slAV k (l.map StoredV.cells),.agg d.cells] (.tup [.agg (getP l d.d).cells,.bool (hasS l d.d)]):=by
 refine ret_pure (S.pure7 _ (by decide)) fun H=>func_rule Tryz.func182 rfl (S.prim _ (by decide)) (by simp) (by kernel_rfl) ?_
 unfold Tryz.f182
 have e:=eq_digV S.toSetting
 simp [argS]
 refine loop_count l.length (fun i s H'=>H'=H++[.rows 32 0 [d.cells],.rows 5 0 [zeroP.cells]]∧s 0=slAV k (l.map StoredV.cells)∧s 3=.ptr H.length 0 32 0 0∧s 4=.ptr (H.length+1) 0 5 0 0∧s 6=.int .i64 i∧l.find? (fun x=>decide (x.id.d=d.d))=(l.drop i).find? (fun x=>decide (x.id.d=d.d))) ?_ ?_
 ·exact ⟨rfl,rfl,rfl,rfl,rfl,rfl⟩
 rintro i s H' ⟨rfl,e0,e3,e4,e6,hc⟩ hi
 by_cases h:i<l.length
 ·rw [List.drop_eq_getElem_cons h,List.find?_cons] at hc
  by_cases hd:l[i].id.d=d.d
  ·rw [show decide (l[i].id.d=d.d)=true by simpa using hd] at hc
   have h1:getP l d.d=l[i].patch:=by unfold getP;rw [hc]
   have h2:hasS l d.d=true:=by unfold hasS;rw [hc];rfl
   rw [h1,h2]
   simp [e0,e3,e4,e6,h,e,hd,storeA]
   exact freeze_two (freeze_closed (v:=.agg _) (PatchV.closed _)) (by simp)
  ·rw [show decide (l[i].id.d=d.d)=false by simpa using hd] at hc
   simp [e0,e3,e4,e6,h,e,hd,wrap_succ h (by omega)]
   exact hc
 ·have h':i=l.length:=by omega
  subst h'
  rw [List.drop_length] at hc
  have h1:getP l d.d=zeroP:=by unfold getP;rw [hc];rfl
  have h2:hasS l d.d=false:=by unfold hasS;rw [hc];rfl
  rw [h1,h2]
  simp [e0,e3,e4,e6,storeA,fillA]
  exact freeze_two (freeze_closed (v:=.agg _) (PatchV.closed _)) (by simp)
end Go.Proofs.Ev
namespace Go.Proofs.Ev
open Go.Proofs
variable {C:Cfg}
def ordC (s:List StoredV) (out:List DigV) (x:StoredV) (k:Int):Bool :=
 !hasD out x.id.d&&allD out (needsR x.patch).2&&(decide (k<0)||match s[k.toNat]? with | some y=>decide (cmpD x.id.d y.id.d<0) | none=>false)
def pickN (s:List StoredV) (out:List DigV):Nat→Int
 | 0=>-1
 | i+1=>match s[i]? with | some x=>if ordC s out x (pickN s out i) then (i:Int) else pickN s out i | none=>pickN s out i
theorem pickN_spec (s:List StoredV) (out:List DigV):∀i,-1≤pickN s out i∧pickN s out i<i∧(0≤pickN s out i→∃x,s[(pickN s out i).toNat]?=some x∧hasD out x.id.d=false∧allD out (needsR x.patch).2=true)
 | 0=>by simp [pickN]
 | i+1=>by
  have ih:=pickN_spec s out i
  rw [pickN]
  cases hx:s[i]? with
  | none=>simp only;exact ⟨ih.1,by omega,ih.2.2⟩
  | some x =>
   simp only
   by_cases hc:ordC s out x (pickN s out i)=true
   ·rw [if_pos hc]
    simp only [ordC,Bool.and_eq_true,Bool.not_eq_true'] at hc
    exact ⟨by omega,by omega,fun _=>⟨x,by simpa using hx,hc.1.1,hc.1.2⟩⟩
   ·rw [if_neg hc];exact ⟨ih.1,by omega,ih.2.2⟩
def ordN (s:List StoredV):Nat→List DigV→List DigV
 | 0,out=>out
 | n+1,out=>match s[(pickN s out s.length).toNat]? with | some x=>if pickN s out s.length<0 then out else ordN s n (out++[x.id]) | none=>out
inductive Ordered (s:List StoredV):List DigV→Prop
 | nil:Ordered s []
 | snoc {out:List DigV} {x:StoredV} (h:Ordered s out) (hx:x∈s) (h1:hasD out x.id.d=false) (h2:allD out (needsR x.patch).2=true):Ordered s (out++[x.id])
theorem ordN_ordered (s:List StoredV):∀n out,Ordered s out→Ordered s (ordN s n out)
 | 0,out,h=>h
 | n+1,out,h=>by
  rw [ordN]
  cases hx:s[(pickN s out s.length).toNat]? with
  | none=>exact h
  | some x =>
   simp only
   split
   ·exact h
   ·rename_i hp
    obtain ⟨y,hy,h1,h2⟩:=(pickN_spec s out s.length).2.2 (by omega)
    rw [hx] at hy;cases hy
    exact ordN_ordered s n _ (.snoc h (List.mem_of_getElem? hx) h1 h2)
theorem needs_len {p:PatchV} (hp:p.Fit):(needsR p).2.length≤2^40:=by
 unfold needsR
 split
 ·simp
 ·have h1:=fold_len withR_len p.deps (.exact,[])
  have h2:=chgs_len p.changes hp.over (p.deps.foldl withR (.exact,[]))
  have:=hp.deps
  have:=hp.changes
  simp at h1;omega
set_option maxRecDepth 100000 in
set_option maxHeartbeats 4000000 in
theorem ret_order17 (S:Setting8 C) (l:List StoredV) (k:SK) (hl:SetFit l):Ret Tryz.prog C 38 [] [slAV k (l.map StoredV.cells)] (slAV (exK (ordN l l.length [])) ((ordN l l.length []).map DigV.cells)):=by
 refine ret_pure (S.pure7 _ (by decide)) fun H=>func_rule Tryz.func38 rfl (S.prim _ (by decide)) (by simp) (by kernel_rfl) ?_
 unfold Tryz.f38
 have hn:=hl.n
 simp [argS,buildSliceA,fillRows]
 refine loop_count l.length (fun i s H'=>∃J out,H'=H++J∧s 0=slAV k (l.map StoredV.cells)∧out.length=i∧GrowX H.length 32 J (s 3) (out.map DigV.cells)∧(out=[]→s 3=.lst [] true)∧(s 3=.lst [] true∨∃b g l,s 3=.sl b g 32 0 l)∧ordN l l.length []=ordN l (l.length-i) out) ?_ ?_
 ·exact ⟨[],[],by simp,rfl,rfl,.lst [],fun _=>rfl,.inl rfl,rfl⟩
 rintro i s H' ⟨J,out,rfl,e0,ho,hg,hz,hz2,hord⟩ hi
 have hlen:=fun HH=>hg.len (P:=Tryz.prog) (t:=60) (e:=25) (H:=HH) (by simp)
 rw [List.length_map,ho] at hlen
 have hf:=fun k d hk=>hg.freezeE (Z:=H) (L:=[]) (k:=k) (d:=d) rfl hk (closedss_map DigV.closed _) (fun h=>hz (by simpa using h)) hz2
 simp only [List.append_nil] at hf
 have hk:exK (out.map DigV.cells)=exK out:=by unfold exK;cases out<;>rfl
 rw [hk] at hf
 by_cases h:i<l.length
 ·have hnn:l.length-i=(l.length-(i+1))+1:=by omega
  rw [hnn,ordN] at hord
  have cmp:∀a b:DigV,∀base H K,CallW Tryz.prog C base (.fn 34 []) [.agg a.cells,.agg b.cells] H K=K (.int .i64 (cmpD a.d b.d)) H:=fun a b=>(ret_cmpD (S.prim _ (by decide)) (S.pure _ (by decide)) a.d b.d a.h b.h).eq
  have f0:=hf 0 5 (Nat.zero_le _)
  have cHas:∀d:DigV,∀base K,CallW Tryz.prog C base (.fn 67 []) [s 3,.agg d.cells] (H++J) K=K (.bool (hasD out d.d)) (H++J):=fun d base K=>(ret_has S.toSetting7 out (exK out) d (by omega)).eq base (H++J) (by rw [List.append_nil,List.mapM_cons,f0,List.mapM_cons,List.mapM_nil,freeze_closed (v:=.agg d.cells) (DigV.closed d)];rfl) K
  have cAll:∀x:PatchV,x.Fit→∀base K,CallW Tryz.prog C base (.fn 36 []) [s 3,slAV (needsR x).1 ((needsR x).2.map DigV.cells)] (H++J) K=K (.bool (allD out (needsR x).2)) (H++J):=fun x hx base K=>(ret_all S.toSetting7 out (needsR x).2 (exK out) (needsR x).1 (by omega) (needs_len hx)).eq base (H++J) (by rw [List.append_nil,List.mapM_cons,f0,List.mapM_cons,List.mapM_nil,freeze_closed (slAV_closed (closedss_map DigV.closed _))];rfl) K
  generalize hV:s 3=V at *
  simp [e0,hlen,hV,h]
  refine loop_count l.length (fun j s' H'=>H'=H++J∧s' 0=slAV k (l.map StoredV.cells)∧s' 3=V∧s' 5=.int .i64 j∧s' 4=.int .i64 (pickN l out j)) ?_ ?_
  ·exact ⟨rfl,e0,hV,rfl,rfl⟩
  rintro j s' H' ⟨rfl,e0,e3,e5,e4⟩ hj
  by_cases hjl:j<l.length
  ·have hpf:=hl.p _ (List.getElem_mem hjl)
   have cN:=(ret_needs S.toSetting7 l[j].patch hpf.ok hpf.ok2 hpf.deps hpf.changes hpf.over).eq
   have cA:=cAll _ hpf
   have hps:=pickN_spec l out j
   have hnext:pickN l out (j+1)=if ordC l out l[j] (pickN l out j) then (j:Int) else pickN l out j:=by rw [pickN,List.getElem?_eq_getElem hjl]
   generalize hP:pickN l out j=P at *
   cases hh:hasD out l[j].id.d with
   | true =>
    have hcc:ordC l out l[j] P=false:=by unfold ordC;rw [hh];rfl
    rw [hcc] at hnext
    simp [e0,e3,e5,e4,hjl,guardV,cHas,hh,wrap_succ hjl (by omega)]
    simpa using hnext.symm
   | false =>
    cases ha:allD out (needsR l[j].patch).2 with
    | false =>
     have hcc:ordC l out l[j] P=false:=by unfold ordC;rw [hh,ha];rfl
     rw [hcc] at hnext
     simp [e0,e3,e5,e4,hjl,guardV,cHas,hh,cN,cA,ha,wrap_succ hjl (by omega)]
     simpa using hnext.symm
    | true =>
     by_cases hP0:P<0
     ·have hcc:ordC l out l[j] P=true:=by unfold ordC;rw [hh,ha];simp [hP0]
      rw [hcc] at hnext
      simp [e0,e3,e5,e4,hjl,guardV,cHas,hh,cN,cA,ha,hP0,wrap_succ hjl (by omega)]
      simpa using hnext.symm
     ·obtain ⟨q,hq⟩:∃q:Nat,P=(q:Int):=⟨P.toNat,by omega⟩
      subst hq
      have hql:q<l.length:=by omega
      have hcc:ordC l out l[j] (q:Int)=decide (cmpD l[j].id.d l[q].id.d<0):=by unfold ordC;rw [hh,ha];simp [hql,show ¬(q:Int)<0 by omega]
      rw [hcc] at hnext
      by_cases hcm:cmpD l[j].id.d l[q].id.d<0
      ·simp [hcm] at hnext
       simp [e0,e3,e5,e4,hjl,hql,guardV,cHas,hh,cN,cA,ha,hP0,cmp,hcm,wrap_succ hjl (by omega)]
       exact hnext.symm
      ·simp [hcm] at hnext
       simp [e0,e3,e5,e4,hjl,hql,guardV,cHas,hh,cN,cA,ha,hP0,cmp,hcm,wrap_succ hjl (by omega)]
       exact hnext.symm
  ·have hj':j=l.length:=by omega
   subst hj'
   have hps:=pickN_spec l out l.length
   generalize hP:pickN l out l.length=P at *
   by_cases hP0:P<0
   ·have hres:ordN l l.length []=out:=by
     rw [hord]
     cases l[P.toNat]? with
     | none=>rfl
     | some x=>simp [hP0]
    rw [hres]
    simp [e0,e3,e5,e4,hP0]
    exact hf H.length 2 (Nat.le_refl _)
   ·obtain ⟨q,hq⟩:∃q:Nat,P=(q:Int):=⟨P.toNat,by omega⟩
    subst hq
    have hql:q<l.length:=by omega
    rw [Int.toNat_natCast,List.getElem?_eq_getElem hql] at hord
    simp [hP0] at hord
    obtain ⟨v',J',ha,hg',hs'⟩:=app_dg (H0:=H) (Z:=H) rfl (Nat.le_refl _) (x:=.lst [l[q].id.cells] true) (ys:=[l[q].id]) hg rfl (by simp;omega)
    simp [e0,e3,e5,e4,hP0,hql,buildSliceA,fillRows,ha,show digest0.length=32 from rfl]
    exact ⟨h,out++[l[q].id],by simp [ho],by simpa using hg',fun h=>by simp at h,.inr (hs' (.inl (by simp))),hord⟩
 ·have h':i=l.length:=by omega
  have hres:ordN l l.length []=out:=by rw [hord,h',Nat.sub_self];rfl
  rw [hres]
  rw [h'] at hlen
  simp [e0,hlen]
  exact hf H.length 2 (Nat.le_refl _)
end Go.Proofs.Ev
