/- For every set of patches and every identity of together bulk at most 1048576 quiltlaw38.BlameTouching returns true and leaves its arguments as they were. The condition on the bulk is the statement's own; the three tables of the library read as the program lays them (tied). -/
import Derived.Test.YtbpaeodbnleoaaaGreatDoorT27
import Derived.Test.YtbpaeodbnleoaaaGreatDoorCards
import Derived.SizedLaws
import Derived.ChangeOld
import Derived.Deep.DeepHandedRow
set_option linter.all false
namespace Go.Proofs.YtbpaeodbnleoaaaGreatDoor.blameTouchingDone
open Go.ChangeShapes Go.WideShapes Go.ChangeAt Go.RowKit
open Go.Proofs.Ev (wG zw u0 Hb)
set_option linter.unusedVariables false
theorem own:ownKnob Tryz.prog.godebug=none:=by kernel_rfl
theorem laidOut:laidOutB Tryz.prog=true:=by kernel_rfl
def lays (k:IntKind) (ns:List Nat):Obj→Obj
 | .cells _ t frozen=>.cells (ns.map fun (n:Nat)=>Value.int k (n:Int)).toArray t frozen
 | o=>o
noncomputable def laidWorld (os:Os):World :=
 {World.holding Tryz.prog os ⟨#[],#[],[]⟩ with heap:=(((World.holding Tryz.prog os ⟨#[],#[],[]⟩).heap.modify 1 (lays .u64 [1,10,100,1000,10000,100000,1000000,10000000,100000000,1000000000,10000000000,100000000000,1000000000000,10000000000000,100000000000000,1000000000000000,10000000000000000,100000000000000000,1000000000000000000,10000000000000000000])).modify 2 (lays .u8 [0,1,28,2,29,14,24,3,30,22,20,15,25,17,4,8,31,27,13,23,21,19,16,7,26,12,18,6,11,5,10,9])).modify 3 (lays .u8 [0,1,56,2,57,49,28,3,61,58,42,50,38,29,17,4,62,47,59,36,45,43,51,22,53,39,33,30,24,18,12,5,63,55,48,27,60,41,37,16,46,35,44,21,52,32,23,11,54,26,40,15,34,20,31,10,25,14,19,9,13,8,7,6]) }
def id0:Value:=.agg (Array.replicate 32 (.int .u8 0) |>.push (.int .i64 0))
theorem laid_met (os:Os):laidMet Tryz.prog Rows.blameTouchingUptoRow.laid ((laidWorld os).forCall (fun _ _=>0) ⟨#[],#[.slice none 0 0,id0],[]⟩).memory :=
 laidMet_of_run' 8 (by kernel_rfl) (by kernel_rfl)
theorem reads (os:Os) {X:Type} (enc:TypeId×Value→X):∃places,DataW.whole enc Tryz.prog ((laidWorld os).forCall (fun _ _=>0) ⟨#[],#[.slice none 0 0,id0],[]⟩).memory Tryz.f3.params.toList Rows.blameTouchingSpec.vars false #[Value.slice none 0 0,id0].toList 8=some ([.nil,.agg [.agg (List.replicate 32 (.lit (.int .u8 0))),.lit (.int .i64 0)]],[],places) :=
 ⟨[],by kernel_rfl⟩
set_option maxRecDepth 100000 in
theorem lifted (os:Os) (started:os.Started) (X:Type) (enc:TypeId×Value→X) (F:Stop.Interp) :
 ReturnsInHanded {} Tryz.checked os 3 .any ((Rows.OpenSpec.upto Rows.blameTouchingSpec).preRow enc Tryz.prog Tryz.f3 Rows.blameTouchingUptoRow.domain false Rows.blameTouchingUptoRow.laid) (((Rows.OpenSpec.upto Rows.blameTouchingSpec).at F).post enc Tryz.prog Tryz.f3 false true false false):=by
 obtain ⟨places,hx⟩:=reads os enc
 refine returnsInHanded_of_row (C:=Tryz.checked) (s:=(Rows.OpenSpec.upto Rows.blameTouchingSpec)) own started (by kernel_rfl) Tryz.func3
  (witness_row_at (enc:=enc) (C:=Tryz.checked) false (laidWorld os) #[.slice none 0 0,id0] rfl (by kernel_rfl) (by kernel_rfl) (by kernel_rfl)
   (OpenSpec.preRow_of_cond 8 hx (by kernel_rfl) (fun k hk=>by cases hk;kernel_rfl) (by kernel_rfl) (laid_met os))) ?_
 intro W base args ds gs before hval0 hW _ hcond hsz0 hL _ _
 have hval:∀(j:Nat) t v,Tryz.f3.params[j]?=some t→args[j]?=some v→Value.okWide Tryz.prog W .any base t v:=hval0
 have hW':=hW
 obtain ⟨p,q,hA0,hV,rfl,hfz,hnd⟩:=hW
 have hA:DataW.TrodAll enc Tryz.prog W 0 (fun _=>true) true Tryz.f3.params.toList args.toList ds p:=hA0
 rw [Tryz.params3] at hA hval
 obtain ⟨v0,vs0,d0,ds0,p0,q0,hargs,rfl,rfl,h0,r0⟩:=trodAll_cons hA
 obtain ⟨v1,vs1,d1,ds1,p1,q1,rfl,rfl,rfl,h1,r1⟩:=trodAll_cons r0
 obtain ⟨rfl,rfl,rfl⟩:=trodAll_nil r1
 obtain rfl:args=#[v0,v1]:=by cases args;simp_all
 obtain ⟨rfl,rfl⟩:=trodVars_none hV
 have hbulk:Rows.uptoBulkAll ([d0,d1]++[])≤1048576:=of_decide_eq_true (hcond _ rfl)
 simp only [List.append_nil,Rows.uptoBulkAll,Nat.add_zero] at hbulk
 have k0:=h0
 have k1:=h1
 have lt0:∀x∈p0,x.block<W.heap.size:=by obtain ⟨m,hm⟩:=k0;exact DataW.trod_lt m _ _ _ hm
 have lt1:∀x∈p1,x.block<W.heap.size:=by obtain ⟨m,hm⟩:=k1;exact DataW.trod_lt m _ _ _ hm
 obtain ⟨s0,w0,z0⟩:=wG (hval 0 23 v0 rfl rfl) h0 (by omega)
 obtain ⟨id,w1⟩:=zw (hval 1 27 v1 rfl rfl) h1
 clear hA0 hval0
 refine (u0 w0 w1 z0 hL).mono fun e W' ⟨he,bel⟩=>?_
 subst he
 exact ⟨_,rfl,_,_,_,[],_,[],hW',trodAll_mk1 (shut_bool Tryz.underlying4 _),(trodAll_cons_mk (Below.trod laidOut (by kernel_rfl) (of_decide_eq_true (by kernel_rfl)) k0 bel lt0) (trodAll_cons_mk (Below.trod laidOut (by kernel_rfl) (of_decide_eq_true (by kernel_rfl)) k1 bel lt1) trodAll_mk0)),rfl,bel.frame _,fun h=>by cases h⟩
theorem andT {a b:Bool} (h:a=true) (k:b=true):(a&&b)=true:=by rw [h,k];rfl
set_option maxRecDepth 100000 in
theorem closed:joinedFacts Tryz.prog 3 Tryz.f3 (Rows.OpenSpec.upto Rows.blameTouchingSpec).bare Rows.blameTouchingUptoRow=true:=by
 unfold joinedFacts
 exact (andT (andT (andT (andT (andT (andT (andT (andT (andT (andT (andT (andT (andT (andT (andT (andT (andT (andT (andT (andT (andT (andT (andT (andT (andT (andT (andT (andT (andT (andT (andT cf0 cf1) cf2) cf3) cf4) cf5) cf6) cf7) cf8) cf9) cf10) cf11) cf12) cf13) cf14) cf15) cf16) cf17) cf18) cf19) cf20) cf21) cf22) cf23) cf24) cf25) cf26) cf27) cf28) cf29) cf30) cf31)
theorem wraps:Tryz.f3.isWrapper Tryz.prog Rows.blameTouchingUptoRow.wrapper Rows.blameTouchingUptoRow.mainSum:=by unfold Func.isWrapper;first | (rw [if_pos (by decide +kernel)];kernel_rfl) | (rw [if_neg (by decide +kernel)];exact ⟨rfl,rfl⟩)
theorem inst3:Tryz.f3.isInstance Tryz.prog Rows.blameTouchingUptoRow.origin Rows.blameTouchingUptoRow.targs:=of_decide_eq_true (by kernel_rfl)
theorem said:Rows.BlameTouchingUptoSaid :=
 OpenClaim.holds_of_cond 3 Tryz.f3 rfl rfl rfl rfl rfl rfl rfl ⟨rfl,rfl,rfl,rfl,rfl⟩ rfl rfl rfl rfl rfl named3 Tryz.func3 closed inst3 wraps
  (fun os started X enc _ F=>by rw [OpenClaim.pre_eq_preRow];exact lifted os started X enc F)
theorem plain (f:FuncId) (fn:Func) (hf:Tryz.pinned.checked.prog.funcNamed "quilt/quiltlaw38.BlameTouching" = some f) (hfn:Tryz.pinned.checked.prog.funcs[f]?=some fn) :
 false=Tryz.pinned.checked.prog.looks []∧∀(j:Nat) t,fn.params[j]?=some t→Tryz.pinned.checked.prog.wantsStandIn t=false:=by
 obtain rfl:f=3:=Option.some.inj (named3.symm.trans hf) |>.symm
 obtain rfl:fn=Tryz.f3:=(Option.some.inj (Tryz.func3.symm.trans hfn)).symm
 refine ⟨by kernel_rfl,fun j t ht=>?_⟩
 rw [Tryz.params3] at ht
 have ht2:=Array.mem_of_getElem? ht
 simp at ht2
 rcases ht2 with rfl | rfl
 ·exact (show Tryz.prog.wantsStandIn 23=false by kernel_rfl)
 ·exact (show Tryz.prog.wantsStandIn 27=false by kernel_rfl)
theorem wfText:Rows.blameTouchingUptoRow.wfByText (Rows.OpenSpec.upto Rows.blameTouchingSpec)=true:=by kernel_rfl
theorem mainIs:Tryz.pinned.checked.prog.mainIs=some (true,"2367d5516dab4baddf558b8182d670f3adc0c3957bc29a530eb26363f1a84b30".toList):=by kernel_rfl
theorem proved:Rows.BlameTouchingUptoCardSaid :=
 Claim7.holds_tied_plain_at .later [] _ _ _ _ said (fun _ h=>by cases h) wfText (fun _ h=>by cases h) blameTouchingUpto_row_tie rfl ⟨rfl,rfl⟩ mainIs rfl plain goes
end Go.Proofs.YtbpaeodbnleoaaaGreatDoor.blameTouchingDone
#print axioms Go.Proofs.YtbpaeodbnleoaaaGreatDoor.blameTouchingDone.proved
