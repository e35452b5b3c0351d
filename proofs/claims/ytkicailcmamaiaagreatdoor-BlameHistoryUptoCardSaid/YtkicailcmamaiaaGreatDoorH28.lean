/- Part 28 of the proof that quiltlaw38.BlameHistory returns true: no statement of its own. -/
import Derived.Test.YtkicailcmamaiaaGreatDoorTie
import Derived.JoinedCond
import Derived.KernelRfl
set_option linter.all false
namespace Go.Proofs.YtkicailcmamaiaaGreatDoor.blameHistoryDone
open Go
set_option linter.unusedVariables false
theorem cf0:(fun (P:Program) (f:FuncId) (fn:Func) (s:ChangeSpec) (c:OpenClaim)=>(c.wf (OpenSpec.ofChange s):Bool)) Tryz.prog 3 Tryz.f3 (Rows.OpenSpec.upto Rows.blameHistorySpec).bare Rows.blameHistoryUptoRow=true:=by kernel_rfl
theorem cf1:(fun (P:Program) (f:FuncId) (fn:Func) (s:ChangeSpec) (c:OpenClaim)=>(laidOutB P:Bool)) Tryz.prog 3 Tryz.f3 (Rows.OpenSpec.upto Rows.blameHistorySpec).bare Rows.blameHistoryUptoRow=true:=by kernel_rfl
theorem cf2:(fun (P:Program) (f:FuncId) (fn:Func) (s:ChangeSpec) (c:OpenClaim)=>(mapsRowed P:Bool)) Tryz.prog 3 Tryz.f3 (Rows.OpenSpec.upto Rows.blameHistorySpec).bare Rows.blameHistoryUptoRow=true:=by kernel_rfl
theorem cf3:(fun (P:Program) (f:FuncId) (fn:Func) (s:ChangeSpec) (c:OpenClaim)=>(fn.params.all (P.readableRec ·):Bool)) Tryz.prog 3 Tryz.f3 (Rows.OpenSpec.upto Rows.blameHistorySpec).bare Rows.blameHistoryUptoRow=true:=by kernel_rfl
theorem cf4:(fun (P:Program) (f:FuncId) (fn:Func) (s:ChangeSpec) (c:OpenClaim)=>(namedTie P c.named s.vars:Bool)) Tryz.prog 3 Tryz.f3 (Rows.OpenSpec.upto Rows.blameHistorySpec).bare Rows.blameHistoryUptoRow=true:=by kernel_rfl
theorem cf5:(fun (P:Program) (f:FuncId) (fn:Func) (s:ChangeSpec) (c:OpenClaim)=>((c.stops==[]):Bool)) Tryz.prog 3 Tryz.f3 (Rows.OpenSpec.upto Rows.blameHistorySpec).bare Rows.blameHistoryUptoRow=true:=by kernel_rfl
theorem cf6:(fun (P:Program) (f:FuncId) (fn:Func) (s:ChangeSpec) (c:OpenClaim)=>((P.stops==[]):Bool)) Tryz.prog 3 Tryz.f3 (Rows.OpenSpec.upto Rows.blameHistorySpec).bare Rows.blameHistoryUptoRow=true:=by kernel_rfl
theorem cf7:(fun (P:Program) (f:FuncId) (fn:Func) (s:ChangeSpec) (c:OpenClaim)=>((c.knobs==[]):Bool)) Tryz.prog 3 Tryz.f3 (Rows.OpenSpec.upto Rows.blameHistorySpec).bare Rows.blameHistoryUptoRow=true:=by kernel_rfl
theorem cf8:(fun (P:Program) (f:FuncId) (fn:Func) (s:ChangeSpec) (c:OpenClaim)=>((P.stopKnobs==[]):Bool)) Tryz.prog 3 Tryz.f3 (Rows.OpenSpec.upto Rows.blameHistorySpec).bare Rows.blameHistoryUptoRow=true:=by kernel_rfl
theorem cf13:(fun (P:Program) (f:FuncId) (fn:Func) (s:ChangeSpec) (c:OpenClaim)=>((c.maps==(fn.params.toList++s.plain.varTypes P).any (P.mapsRec ·)):Bool)) Tryz.prog 3 Tryz.f3 (Rows.OpenSpec.upto Rows.blameHistorySpec).bare Rows.blameHistoryUptoRow=true:=by kernel_rfl
theorem cf14:(fun (P:Program) (f:FuncId) (fn:Func) (s:ChangeSpec) (c:OpenClaim)=>((c.ifaces==(fn.params.toList++s.plain.varTypes P).any (P.ifacesRec ·)):Bool)) Tryz.prog 3 Tryz.f3 (Rows.OpenSpec.upto Rows.blameHistorySpec).bare Rows.blameHistoryUptoRow=true:=by kernel_rfl
theorem cf15:(fun (P:Program) (f:FuncId) (fn:Func) (s:ChangeSpec) (c:OpenClaim)=>((c.mapsOut==P.mapsAmong fn.resultTypes.toList):Bool)) Tryz.prog 3 Tryz.f3 (Rows.OpenSpec.upto Rows.blameHistorySpec).bare Rows.blameHistoryUptoRow=true:=by kernel_rfl
theorem cf16:(fun (P:Program) (f:FuncId) (fn:Func) (s:ChangeSpec) (c:OpenClaim)=>((c.loops==(fn.params.toList++s.plain.varTypes P).any (P.loopsFrom ·)):Bool)) Tryz.prog 3 Tryz.f3 (Rows.OpenSpec.upto Rows.blameHistorySpec).bare Rows.blameHistoryUptoRow=true:=by kernel_rfl
theorem cf17:(fun (P:Program) (f:FuncId) (fn:Func) (s:ChangeSpec) (c:OpenClaim)=>((c.wideKeys==(fn.params.toList++s.plain.varTypes P++fn.resultTypes.toList).any (P.wideKeysFrom ·)):Bool)) Tryz.prog 3 Tryz.f3 (Rows.OpenSpec.upto Rows.blameHistorySpec).bare Rows.blameHistoryUptoRow=true:=by kernel_rfl
theorem cf18:(fun (P:Program) (f:FuncId) (fn:Func) (s:ChangeSpec) (c:OpenClaim)=>(s.vars.all (P.varReadable ·):Bool)) Tryz.prog 3 Tryz.f3 (Rows.OpenSpec.upto Rows.blameHistorySpec).bare Rows.blameHistoryUptoRow=true:=by kernel_rfl
theorem cf19:(fun (P:Program) (f:FuncId) (fn:Func) (s:ChangeSpec) (c:OpenClaim)=>(fn.resultTypes.all (fun t=>P.readableRec t&&decide (t<P.types.size)):Bool)) Tryz.prog 3 Tryz.f3 (Rows.OpenSpec.upto Rows.blameHistorySpec).bare Rows.blameHistoryUptoRow=true:=by kernel_rfl
theorem cf20:(fun (P:Program) (f:FuncId) (fn:Func) (s:ChangeSpec) (c:OpenClaim)=>((c.ifacesOut==fn.resultTypes.toList.any (P.ifacesRec ·)):Bool)) Tryz.prog 3 Tryz.f3 (Rows.OpenSpec.upto Rows.blameHistorySpec).bare Rows.blameHistoryUptoRow=true:=by kernel_rfl
theorem cf21:(fun (P:Program) (f:FuncId) (fn:Func) (s:ChangeSpec) (c:OpenClaim)=>((c.loopsOut==fn.resultTypes.toList.any (P.loopsFrom ·)):Bool)) Tryz.prog 3 Tryz.f3 (Rows.OpenSpec.upto Rows.blameHistorySpec).bare Rows.blameHistoryUptoRow=true:=by kernel_rfl
theorem cf22:(fun (P:Program) (f:FuncId) (fn:Func) (s:ChangeSpec) (c:OpenClaim)=>((c.plainKeys==P.plainKeys):Bool)) Tryz.prog 3 Tryz.f3 (Rows.OpenSpec.upto Rows.blameHistorySpec).bare Rows.blameHistoryUptoRow=true:=by kernel_rfl
theorem cf23:(fun (P:Program) (f:FuncId) (fn:Func) (s:ChangeSpec) (c:OpenClaim)=>(c.shortTexts.isNone:Bool)) Tryz.prog 3 Tryz.f3 (Rows.OpenSpec.upto Rows.blameHistorySpec).bare Rows.blameHistoryUptoRow=true:=by kernel_rfl
theorem cf24:(fun (P:Program) (f:FuncId) (fn:Func) (s:ChangeSpec) (c:OpenClaim)=>(P.stopsHeard:Bool)) Tryz.prog 3 Tryz.f3 (Rows.OpenSpec.upto Rows.blameHistorySpec).bare Rows.blameHistoryUptoRow=true:=by kernel_rfl
theorem cf25:(fun (P:Program) (f:FuncId) (fn:Func) (s:ChangeSpec) (c:OpenClaim)=>(P.mayEnter:Bool)) Tryz.prog 3 Tryz.f3 (Rows.OpenSpec.upto Rows.blameHistorySpec).bare Rows.blameHistoryUptoRow=true:=by kernel_rfl
theorem cf26:(fun (P:Program) (f:FuncId) (fn:Func) (s:ChangeSpec) (c:OpenClaim)=>((c.lifted==P.liftsFinal):Bool)) Tryz.prog 3 Tryz.f3 (Rows.OpenSpec.upto Rows.blameHistorySpec).bare Rows.blameHistoryUptoRow=true:=by kernel_rfl
theorem cf27:(fun (P:Program) (f:FuncId) (fn:Func) (s:ChangeSpec) (c:OpenClaim)=>((P.make==some c.make):Bool)) Tryz.prog 3 Tryz.f3 (Rows.OpenSpec.upto Rows.blameHistorySpec).bare Rows.blameHistoryUptoRow=true:=by kernel_rfl
theorem cf28:(fun (P:Program) (f:FuncId) (fn:Func) (s:ChangeSpec) (c:OpenClaim)=>((c.kinds==(if c.domain.isEmpty then [] else fn.params.toList.map fun t=>match P.underlying t with | some (.int k)=>some k | _=>none)):Bool)) Tryz.prog 3 Tryz.f3 (Rows.OpenSpec.upto Rows.blameHistorySpec).bare Rows.blameHistoryUptoRow=true:=by kernel_rfl
theorem cf29:(fun (P:Program) (f:FuncId) (fn:Func) (s:ChangeSpec) (c:OpenClaim)=>((c.pinned==c.pinnedBy):Bool)) Tryz.prog 3 Tryz.f3 (Rows.OpenSpec.upto Rows.blameHistorySpec).bare Rows.blameHistoryUptoRow=true:=by kernel_rfl
theorem cf30:(fun (P:Program) (f:FuncId) (fn:Func) (s:ChangeSpec) (c:OpenClaim)=>((c.veiled==(fn.params.toList++s.plain.varTypes P++fn.resultTypes.toList).any (P.veiledRec ·)):Bool)) Tryz.prog 3 Tryz.f3 (Rows.OpenSpec.upto Rows.blameHistorySpec).bare Rows.blameHistoryUptoRow=true:=by kernel_rfl
theorem cf31:(fun (P:Program) (f:FuncId) (fn:Func) (s:ChangeSpec) (c:OpenClaim)=>(c.veiledFits P fn.params.toList (fn.params.toList++s.plain.varTypes P++fn.resultTypes.toList):Bool)) Tryz.prog 3 Tryz.f3 (Rows.OpenSpec.upto Rows.blameHistorySpec).bare Rows.blameHistoryUptoRow=true:=by kernel_rfl
end Go.Proofs.YtkicailcmamaiaaGreatDoor.blameHistoryDone
namespace Go.Proofs.YtkicailcmamaiaaGreatDoor.blameHistoryDone
open Go
set_option linter.unusedVariables false
theorem goes_none:Tryz.prog.funcs.toList.all (fun fn=>!fn.goes)=true:=by kernel_rfl
theorem named3:Tryz.prog.funcNamed "quilt/quiltlaw38.BlameHistory" = some 3:=by kernel_rfl
theorem goes_at (g:FuncId):(Tryz.prog.funcs[g]?).any Func.goes=false:=by
 cases hg:Tryz.prog.funcs[g]? with
 | none=>rfl
 | some fn =>
  have:=List.all_eq_true.1 goes_none fn (by simpa using Array.mem_of_getElem? hg)
  simpa using this
theorem goes_3:Tryz.prog.goes 3=false:=by
 unfold Program.goes
 have h1:((Tryz.prog.closure 3).any fun g=>(Tryz.prog.funcs[g]?).any Func.goes)=false:=by
  rw [List.any_eq_false]
  intro g _
  rw [goes_at g];simp
 have h2:Tryz.prog.funcs.any Func.goes=false:=by
  rw [←Array.any_toList,List.any_eq_false]
  intro fn hf
  have:=List.all_eq_true.1 goes_none fn hf
  simpa using this
 rw [h1,h2];simp
theorem goes:false=Rows.blameHistoryUptoRow.goesBy Tryz.pinned.checked.prog:=by
 show false=((Tryz.prog.funcNamed "quilt/quiltlaw38.BlameHistory").any Tryz.prog.goes||false)
 rw [named3,Option.any_some,goes_3];rfl
end Go.Proofs.YtkicailcmamaiaaGreatDoor.blameHistoryDone
