/- Part 7 of the proof that quiltlaw38.BlameTouching returns true: no statement of its own. -/
import Derived.Test.YtbpaeodbnleoaaaGreatDoorT6
import Derived.Test.YtbpaeodbnleoaaaGreatDoorTie
import Derived.Deep.Slices
import Derived.OpenShut
import Derived.RowKit
import Derived.WideShapes
import Derived.ChangeAt
set_option linter.all false
namespace Go.Proofs.Ev
def fU (s:List UInt8):List AV:=[.str s]
theorem AD (s:List UInt8):AV.closeds (fU s)=true:=rfl
@[simp] theorem OX (s:List UInt8):(fU s).length=1:=rfl
structure ar where
 d:List Nat
 h:d.length=32
 b:∀x∈d,x<256
def ar.cells (x:ar):List AV:=dig x.d
@[simp] theorem ar.len (x:ar):x.cells.length=32:=by simp [ar.cells,x.h]
@[simp] theorem ar.leafs (x:ar):x.cells.all AV.leaf=true:=by simp [ar.cells]
@[simp] theorem ar.closed (x:ar):AV.closeds x.cells=true:=gk _
@[simp] theorem ar.take32 (x:ar):x.cells.take 32=x.cells:=List.take_of_length_le (by simp)
structure aH where
 id:aI
 kind:Int
 file:aI
 type:Int
 parent:aI
 name:List UInt8
 mode:Int
 data:List UInt8
 text:List UInt8
 frm:aI
 to:aI
 over:List aI
 overK:SK
def aH.cells (x:aH):List AV:=x.id.cells++(.int .i64 x.kind::(x.file.cells++(.int .i64 x.type::(x.parent.cells++(.str x.name::(.int .i64 x.mode::(.str x.data::(.str x.text::(x.frm.cells++(x.to.cells++([aw x.overK (x.over.map aI.cells)])))))))))))
@[simp] theorem aH.len (x:aH):x.cells.length=172:=by simp [aH.cells]
@[simp] theorem aH.leafs (x:aH):x.cells.all AV.leaf=true:=by simp only [aH.cells,List.all_append,List.all_cons,aI.leafs,ar.leafs,List.all_nil,lQ,np,nq,lG,Bool.and_self,Bool.true_and,Bool.and_true]
@[simp] theorem aH.takeAll (x:aH):x.cells.take 172=x.cells:=List.take_of_length_le (by simp)
@[simp] theorem aH.dropAll (x:aH):x.cells.drop 172=[]:=List.drop_of_length_le (by simp)
theorem aH.dr0 (x:aH):x.cells.drop 0=x.id.cells++(.int .i64 x.kind::(x.file.cells++(.int .i64 x.type::(x.parent.cells++(.str x.name::(.int .i64 x.mode::(.str x.data::(.str x.text::(x.frm.cells++(x.to.cells++([aw x.overK (x.over.map aI.cells)]))))))))))):=rfl
theorem aH.dr33 (x:aH):x.cells.drop 33=.int .i64 x.kind::(x.file.cells++(.int .i64 x.type::(x.parent.cells++(.str x.name::(.int .i64 x.mode::(.str x.data::(.str x.text::(x.frm.cells++(x.to.cells++([aw x.overK (x.over.map aI.cells)])))))))))):=by rw [show 33=0+33 from rfl,←List.drop_drop,x.dr0,dY (n:=33) (by simp) (by decide)];rfl
theorem aH.dr34 (x:aH):x.cells.drop 34=x.file.cells++(.int .i64 x.type::(x.parent.cells++(.str x.name::(.int .i64 x.mode::(.str x.data::(.str x.text::(x.frm.cells++(x.to.cells++([aw x.overK (x.over.map aI.cells)]))))))))):=by rw [show 34=33+1 from rfl,←List.drop_drop,x.dr33];rfl
theorem aH.dr67 (x:aH):x.cells.drop 67=.int .i64 x.type::(x.parent.cells++(.str x.name::(.int .i64 x.mode::(.str x.data::(.str x.text::(x.frm.cells++(x.to.cells++([aw x.overK (x.over.map aI.cells)])))))))):=by rw [show 67=34+33 from rfl,←List.drop_drop,x.dr34,dY (n:=33) (by simp) (by decide)];rfl
theorem aH.dr68 (x:aH):x.cells.drop 68=x.parent.cells++(.str x.name::(.int .i64 x.mode::(.str x.data::(.str x.text::(x.frm.cells++(x.to.cells++([aw x.overK (x.over.map aI.cells)]))))))):=by rw [show 68=67+1 from rfl,←List.drop_drop,x.dr67];rfl
theorem aH.dr101 (x:aH):x.cells.drop 101=.str x.name::(.int .i64 x.mode::(.str x.data::(.str x.text::(x.frm.cells++(x.to.cells++([aw x.overK (x.over.map aI.cells)])))))):=by rw [show 101=68+33 from rfl,←List.drop_drop,x.dr68,dY (n:=33) (by simp) (by decide)];rfl
theorem aH.dr102 (x:aH):x.cells.drop 102=.int .i64 x.mode::(.str x.data::(.str x.text::(x.frm.cells++(x.to.cells++([aw x.overK (x.over.map aI.cells)]))))):=by rw [show 102=101+1 from rfl,←List.drop_drop,x.dr101];rfl
theorem aH.dr103 (x:aH):x.cells.drop 103=.str x.data::(.str x.text::(x.frm.cells++(x.to.cells++([aw x.overK (x.over.map aI.cells)])))):=by rw [show 103=102+1 from rfl,←List.drop_drop,x.dr102];rfl
theorem aH.dr104 (x:aH):x.cells.drop 104=.str x.text::(x.frm.cells++(x.to.cells++([aw x.overK (x.over.map aI.cells)]))):=by rw [show 104=103+1 from rfl,←List.drop_drop,x.dr103];rfl
theorem aH.dr105 (x:aH):x.cells.drop 105=x.frm.cells++(x.to.cells++([aw x.overK (x.over.map aI.cells)])):=by rw [show 105=104+1 from rfl,←List.drop_drop,x.dr104];rfl
theorem aH.dr138 (x:aH):x.cells.drop 138=x.to.cells++([aw x.overK (x.over.map aI.cells)]):=by rw [show 138=105+33 from rfl,←List.drop_drop,x.dr105,dY (n:=33) (by simp) (by decide)];rfl
theorem aH.dr171 (x:aH):x.cells.drop 171=[aw x.overK (x.over.map aI.cells)]:=by rw [show 171=138+33 from rfl,←List.drop_drop,x.dr138,dY (n:=33) (by simp) (by decide)];rfl
theorem aH.id0 (x:aH):x.cells.take 33=x.id.cells:=by show (x.id.cells++(.int .i64 x.kind::(x.file.cells++(.int .i64 x.type::(x.parent.cells++(.str x.name::(.int .i64 x.mode::(.str x.data::(.str x.text::(x.frm.cells++(x.to.cells++([aw x.overK (x.over.map aI.cells)])))))))))))).take 33=_;rw [List.take_append_of_le_length (by simp)];exact List.take_of_length_le (by simp)
@[simp] theorem aH.id1 (x:aH):AV.agg (x.cells.take 33)=AV.agg (x.id.cells):=by rw [x.id0]
@[simp] theorem aH.idU (x:aH) (v:aI):(v.cells++x.cells.drop 33)=aH.cells { x with id:=v }:=by rw [x.dr33];rfl
@[simp] theorem aH.kind1 (x:aH):x.cells[33]?=some (.int .i64 x.kind):=by rw [←List.head?_drop,x.dr33];rfl
@[simp] theorem aH.kind2 (x:aH) (h:33<x.cells.length):x.cells[33]=.int .i64 x.kind:=cJ x.kind1 h
theorem aH.tk33 (x:aH):x.cells.take 33=x.id.cells:=by
 have h:x.cells=(x.id.cells)++x.cells.drop 33:=by rw [x.dr33];simp [aH.cells]
 rw [h,List.take_append_of_le_length (by simp)];exact List.take_of_length_le (by simp)
@[simp] theorem aH.kindU (x:aH) (v:Int):x.cells.take 33++(.int .i64 v::x.cells.drop 34)=aH.cells { x with kind:=v }:=by rw [x.tk33,aH.dr34];simp [aH.cells]
@[simp] theorem aH.file1 (x:aH):(x.cells.drop 34).take 33=x.file.cells:=by rw [x.dr34];rw [List.take_append_of_le_length (by simp)];exact List.take_of_length_le (by simp)
theorem aH.tk34 (x:aH):x.cells.take 34=x.id.cells++([.int .i64 x.kind]):=by
 have h:x.cells=(x.id.cells++([.int .i64 x.kind]))++x.cells.drop 34:=by rw [x.dr34];simp [aH.cells]
 rw [h,List.take_append_of_le_length (by simp)];exact List.take_of_length_le (by simp)
@[simp] theorem aH.fileU (x:aH) (v:aI):x.cells.take 34++(v.cells++x.cells.drop 67)=aH.cells { x with file:=v }:=by rw [x.tk34,aH.dr67];simp [aH.cells]
@[simp] theorem aH.type1 (x:aH):x.cells[67]?=some (.int .i64 x.type):=by rw [←List.head?_drop,x.dr67];rfl
@[simp] theorem aH.type2 (x:aH) (h:67<x.cells.length):x.cells[67]=.int .i64 x.type:=cJ x.type1 h
theorem aH.tk67 (x:aH):x.cells.take 67=x.id.cells++(.int .i64 x.kind::(x.file.cells)):=by
 have h:x.cells=(x.id.cells++(.int .i64 x.kind::(x.file.cells)))++x.cells.drop 67:=by rw [x.dr67];simp [aH.cells]
 rw [h,List.take_append_of_le_length (by simp)];exact List.take_of_length_le (by simp)
@[simp] theorem aH.typeU (x:aH) (v:Int):x.cells.take 67++(.int .i64 v::x.cells.drop 68)=aH.cells { x with type:=v }:=by rw [x.tk67,aH.dr68];simp [aH.cells]
@[simp] theorem aH.parent1 (x:aH):(x.cells.drop 68).take 33=x.parent.cells:=by rw [x.dr68];rw [List.take_append_of_le_length (by simp)];exact List.take_of_length_le (by simp)
theorem aH.tk68 (x:aH):x.cells.take 68=x.id.cells++(.int .i64 x.kind::(x.file.cells++([.int .i64 x.type]))):=by
 have h:x.cells=(x.id.cells++(.int .i64 x.kind::(x.file.cells++([.int .i64 x.type]))))++x.cells.drop 68:=by rw [x.dr68];simp [aH.cells]
 rw [h,List.take_append_of_le_length (by simp)];exact List.take_of_length_le (by simp)
@[simp] theorem aH.parentU (x:aH) (v:aI):x.cells.take 68++(v.cells++x.cells.drop 101)=aH.cells { x with parent:=v }:=by rw [x.tk68,aH.dr101];simp [aH.cells]
@[simp] theorem aH.name1 (x:aH):x.cells[101]?=some (.str x.name):=by rw [←List.head?_drop,x.dr101];rfl
@[simp] theorem aH.name2 (x:aH) (h:101<x.cells.length):x.cells[101]=.str x.name:=cJ x.name1 h
theorem aH.tk101 (x:aH):x.cells.take 101=x.id.cells++(.int .i64 x.kind::(x.file.cells++(.int .i64 x.type::(x.parent.cells)))):=by
 have h:x.cells=(x.id.cells++(.int .i64 x.kind::(x.file.cells++(.int .i64 x.type::(x.parent.cells)))))++x.cells.drop 101:=by rw [x.dr101];simp [aH.cells]
 rw [h,List.take_append_of_le_length (by simp)];exact List.take_of_length_le (by simp)
@[simp] theorem aH.nameU (x:aH) (v:List UInt8):x.cells.take 101++(.str v::x.cells.drop 102)=aH.cells { x with name:=v }:=by rw [x.tk101,aH.dr102];simp [aH.cells]
theorem aH.tk102 (x:aH):x.cells.take 102=x.id.cells++(.int .i64 x.kind::(x.file.cells++(.int .i64 x.type::(x.parent.cells++([.str x.name]))))):=by
 have h:x.cells=(x.id.cells++(.int .i64 x.kind::(x.file.cells++(.int .i64 x.type::(x.parent.cells++([.str x.name]))))))++x.cells.drop 102:=by rw [x.dr102];simp [aH.cells]
 rw [h,List.take_append_of_le_length (by simp)];exact List.take_of_length_le (by simp)
@[simp] theorem aH.modeU (x:aH) (v:Int):x.cells.take 102++(.int .i64 v::x.cells.drop 103)=aH.cells { x with mode:=v }:=by rw [x.tk102,aH.dr103];simp [aH.cells]
theorem aH.tk103 (x:aH):x.cells.take 103=x.id.cells++(.int .i64 x.kind::(x.file.cells++(.int .i64 x.type::(x.parent.cells++(.str x.name::([.int .i64 x.mode])))))):=by
 have h:x.cells=(x.id.cells++(.int .i64 x.kind::(x.file.cells++(.int .i64 x.type::(x.parent.cells++(.str x.name::([.int .i64 x.mode])))))))++x.cells.drop 103:=by rw [x.dr103];simp [aH.cells]
 rw [h,List.take_append_of_le_length (by simp)];exact List.take_of_length_le (by simp)
@[simp] theorem aH.dataU (x:aH) (v:List UInt8):x.cells.take 103++(.str v::x.cells.drop 104)=aH.cells { x with data:=v }:=by rw [x.tk103,aH.dr104];simp [aH.cells]
@[simp] theorem aH.text1 (x:aH):x.cells[104]?=some (.str x.text):=by rw [←List.head?_drop,x.dr104];rfl
@[simp] theorem aH.text2 (x:aH) (h:104<x.cells.length):x.cells[104]=.str x.text:=cJ x.text1 h
theorem aH.tk104 (x:aH):x.cells.take 104=x.id.cells++(.int .i64 x.kind::(x.file.cells++(.int .i64 x.type::(x.parent.cells++(.str x.name::(.int .i64 x.mode::([.str x.data]))))))):=by
 have h:x.cells=(x.id.cells++(.int .i64 x.kind::(x.file.cells++(.int .i64 x.type::(x.parent.cells++(.str x.name::(.int .i64 x.mode::([.str x.data]))))))))++x.cells.drop 104:=by rw [x.dr104];simp [aH.cells]
 rw [h,List.take_append_of_le_length (by simp)];exact List.take_of_length_le (by simp)
@[simp] theorem aH.textU (x:aH) (v:List UInt8):x.cells.take 104++(.str v::x.cells.drop 105)=aH.cells { x with text:=v }:=by rw [x.tk104,aH.dr105];simp [aH.cells]
@[simp] theorem aH.frm1 (x:aH):(x.cells.drop 105).take 33=x.frm.cells:=by rw [x.dr105];rw [List.take_append_of_le_length (by simp)];exact List.take_of_length_le (by simp)
theorem aH.tk105 (x:aH):x.cells.take 105=x.id.cells++(.int .i64 x.kind::(x.file.cells++(.int .i64 x.type::(x.parent.cells++(.str x.name::(.int .i64 x.mode::(.str x.data::([.str x.text])))))))):=by
 have h:x.cells=(x.id.cells++(.int .i64 x.kind::(x.file.cells++(.int .i64 x.type::(x.parent.cells++(.str x.name::(.int .i64 x.mode::(.str x.data::([.str x.text])))))))))++x.cells.drop 105:=by rw [x.dr105];simp [aH.cells]
 rw [h,List.take_append_of_le_length (by simp)];exact List.take_of_length_le (by simp)
@[simp] theorem aH.frmU (x:aH) (v:aI):x.cells.take 105++(v.cells++x.cells.drop 138)=aH.cells { x with frm:=v }:=by rw [x.tk105,aH.dr138];simp [aH.cells]
@[simp] theorem aH.to1 (x:aH):(x.cells.drop 138).take 33=x.to.cells:=by rw [x.dr138];rw [List.take_append_of_le_length (by simp)];exact List.take_of_length_le (by simp)
theorem aH.tk138 (x:aH):x.cells.take 138=x.id.cells++(.int .i64 x.kind::(x.file.cells++(.int .i64 x.type::(x.parent.cells++(.str x.name::(.int .i64 x.mode::(.str x.data::(.str x.text::(x.frm.cells))))))))):=by
 have h:x.cells=(x.id.cells++(.int .i64 x.kind::(x.file.cells++(.int .i64 x.type::(x.parent.cells++(.str x.name::(.int .i64 x.mode::(.str x.data::(.str x.text::(x.frm.cells))))))))))++x.cells.drop 138:=by rw [x.dr138];simp [aH.cells]
 rw [h,List.take_append_of_le_length (by simp)];exact List.take_of_length_le (by simp)
@[simp] theorem aH.toU (x:aH) (v:aI):x.cells.take 138++(v.cells++x.cells.drop 171)=aH.cells { x with to:=v }:=by rw [x.tk138,aH.dr171];simp [aH.cells]
@[simp] theorem aH.over1 (x:aH):x.cells[171]?=some (aw x.overK (x.over.map aI.cells)):=by rw [←List.head?_drop,x.dr171];rfl
@[simp] theorem aH.over2 (x:aH) (h:171<x.cells.length):x.cells[171]=aw x.overK (x.over.map aI.cells):=cJ x.over1 h
theorem aH.tk171 (x:aH):x.cells.take 171=x.id.cells++(.int .i64 x.kind::(x.file.cells++(.int .i64 x.type::(x.parent.cells++(.str x.name::(.int .i64 x.mode::(.str x.data::(.str x.text::(x.frm.cells++(x.to.cells)))))))))):=by
 have h:x.cells=(x.id.cells++(.int .i64 x.kind::(x.file.cells++(.int .i64 x.type::(x.parent.cells++(.str x.name::(.int .i64 x.mode::(.str x.data::(.str x.text::(x.frm.cells++(x.to.cells)))))))))))++x.cells.drop 171:=by rw [x.dr171];simp [aH.cells]
 rw [h,List.take_append_of_le_length (by simp)];exact List.take_of_length_le (by simp)
@[simp] theorem aH.overU (x:aH) (v:List aI) (k:SK):x.cells.take 171++[aw k (v.map aI.cells)]=aH.cells { x with over:=v,overK:=k }:=by rw [x.tk171];simp [aH.cells]
@[simp] theorem aH.closed (x:aH):AV.closeds x.cells=true:=by
 simp [aH.cells,cZ,AV.closeds,AV.closed,cP (aM aI.closed x.over)]
def b9:aH:=⟨aO,0,aO,0,aO,[],0,[],[],aO,aO,[],.nil⟩
theorem ym:aO.cells++[.int .i64 0]++aO.cells++[.int .i64 0]++aO.cells++[.str [],.int .i64 0,.str [],.str []]++aO.cells++aO.cells++[.nils]=b9.cells:=by
 simp [aH.cells,b9,aw]
@[simp] theorem I2:aO.cells++AV.int .i64 0::(aO.cells++AV.int .i64 0::(aO.cells++AV.str []::AV.int .i64 0::AV.str []::AV.str []::(aO.cells++(aO.cells++[AV.nils]))))=b9.cells:=by
 rw [←ym];simp
@[simp] theorem aI.nU2 (x:aI) (v:Int):Ev.dig x.d++[.int .i64 v]=aI.cells { x with n:=v }:=rfl
structure aW where
 kind:Int
 file:aI
 type:Int
 parent:aI
 name:List UInt8
 mode:Int
 data:List UInt8
 after:aI
 before:aI
 lines:List (List UInt8)
 linesK:SK
 over:List aI
 overK:SK
def aW.cells (x:aW):List AV:=.int .i64 x.kind::(x.file.cells++(.int .i64 x.type::(x.parent.cells++(.str x.name::(.int .i64 x.mode::(.str x.data::(x.after.cells++(x.before.cells++(aw x.linesK (x.lines.map fU)::([aw x.overK (x.over.map aI.cells)]))))))))))
@[simp] theorem aW.len (x:aW):x.cells.length=139:=by simp [aW.cells]
@[simp] theorem aW.leafs (x:aW):x.cells.all AV.leaf=true:=by simp only [aW.cells,List.all_append,List.all_cons,aI.leafs,ar.leafs,List.all_nil,lQ,np,nq,lG,Bool.and_self,Bool.true_and,Bool.and_true]
@[simp] theorem aW.takeAll (x:aW):x.cells.take 139=x.cells:=List.take_of_length_le (by simp)
@[simp] theorem aW.dropAll (x:aW):x.cells.drop 139=[]:=List.drop_of_length_le (by simp)
theorem aW.dr0 (x:aW):x.cells.drop 0=.int .i64 x.kind::(x.file.cells++(.int .i64 x.type::(x.parent.cells++(.str x.name::(.int .i64 x.mode::(.str x.data::(x.after.cells++(x.before.cells++(aw x.linesK (x.lines.map fU)::([aw x.overK (x.over.map aI.cells)])))))))))):=rfl
theorem aW.dr1 (x:aW):x.cells.drop 1=x.file.cells++(.int .i64 x.type::(x.parent.cells++(.str x.name::(.int .i64 x.mode::(.str x.data::(x.after.cells++(x.before.cells++(aw x.linesK (x.lines.map fU)::([aw x.overK (x.over.map aI.cells)]))))))))):=by rw [show 1=0+1 from rfl,←List.drop_drop,x.dr0];rfl
theorem aW.dr34 (x:aW):x.cells.drop 34=.int .i64 x.type::(x.parent.cells++(.str x.name::(.int .i64 x.mode::(.str x.data::(x.after.cells++(x.before.cells++(aw x.linesK (x.lines.map fU)::([aw x.overK (x.over.map aI.cells)])))))))):=by rw [show 34=1+33 from rfl,←List.drop_drop,x.dr1,dY (n:=33) (by simp) (by decide)];rfl
theorem aW.dr35 (x:aW):x.cells.drop 35=x.parent.cells++(.str x.name::(.int .i64 x.mode::(.str x.data::(x.after.cells++(x.before.cells++(aw x.linesK (x.lines.map fU)::([aw x.overK (x.over.map aI.cells)]))))))):=by rw [show 35=34+1 from rfl,←List.drop_drop,x.dr34];rfl
theorem aW.dr68 (x:aW):x.cells.drop 68=.str x.name::(.int .i64 x.mode::(.str x.data::(x.after.cells++(x.before.cells++(aw x.linesK (x.lines.map fU)::([aw x.overK (x.over.map aI.cells)])))))):=by rw [show 68=35+33 from rfl,←List.drop_drop,x.dr35,dY (n:=33) (by simp) (by decide)];rfl
theorem aW.dr69 (x:aW):x.cells.drop 69=.int .i64 x.mode::(.str x.data::(x.after.cells++(x.before.cells++(aw x.linesK (x.lines.map fU)::([aw x.overK (x.over.map aI.cells)]))))):=by rw [show 69=68+1 from rfl,←List.drop_drop,x.dr68];rfl
theorem aW.dr70 (x:aW):x.cells.drop 70=.str x.data::(x.after.cells++(x.before.cells++(aw x.linesK (x.lines.map fU)::([aw x.overK (x.over.map aI.cells)])))):=by rw [show 70=69+1 from rfl,←List.drop_drop,x.dr69];rfl
theorem aW.dr71 (x:aW):x.cells.drop 71=x.after.cells++(x.before.cells++(aw x.linesK (x.lines.map fU)::([aw x.overK (x.over.map aI.cells)]))):=by rw [show 71=70+1 from rfl,←List.drop_drop,x.dr70];rfl
theorem aW.dr104 (x:aW):x.cells.drop 104=x.before.cells++(aw x.linesK (x.lines.map fU)::([aw x.overK (x.over.map aI.cells)])):=by rw [show 104=71+33 from rfl,←List.drop_drop,x.dr71,dY (n:=33) (by simp) (by decide)];rfl
theorem aW.dr137 (x:aW):x.cells.drop 137=aw x.linesK (x.lines.map fU)::([aw x.overK (x.over.map aI.cells)]):=by rw [show 137=104+33 from rfl,←List.drop_drop,x.dr104,dY (n:=33) (by simp) (by decide)];rfl
theorem aW.dr138 (x:aW):x.cells.drop 138=[aw x.overK (x.over.map aI.cells)]:=by rw [show 138=137+1 from rfl,←List.drop_drop,x.dr137];rfl
@[simp] theorem aW.kind3 (x:aW):x.cells.head?=some (.int .i64 x.kind):=Eq.trans rfl rfl
@[simp] theorem aW.file1 (x:aW):(x.cells.drop 1).take 33=x.file.cells:=by rw [x.dr1];rw [List.take_append_of_le_length (by simp)];exact List.take_of_length_le (by simp)
@[simp] theorem aW.fileT (x:aW):x.cells.tail.take 33=x.file.cells:=by rw [←List.drop_one];exact x.file1
theorem aW.tk1 (x:aW):x.cells.take 1=[.int .i64 x.kind]:=by
 have h:x.cells=([.int .i64 x.kind])++x.cells.drop 1:=by rw [x.dr1];simp [aW.cells]
 rw [h,List.take_append_of_le_length (by simp)];exact List.take_of_length_le (by simp)
@[simp] theorem aW.fileU (x:aW) (v:aI):x.cells.take 1++(v.cells++x.cells.drop 34)=aW.cells { x with file:=v }:=by rw [x.tk1,aW.dr34];simp [aW.cells]
@[simp] theorem aW.type1 (x:aW):x.cells[34]?=some (.int .i64 x.type):=by rw [←List.head?_drop,x.dr34];rfl
@[simp] theorem aW.type2 (x:aW) (h:34<x.cells.length):x.cells[34]=.int .i64 x.type:=cJ x.type1 h
theorem aW.tk34 (x:aW):x.cells.take 34=.int .i64 x.kind::(x.file.cells):=by
 have h:x.cells=(.int .i64 x.kind::(x.file.cells))++x.cells.drop 34:=by rw [x.dr34];simp [aW.cells]
 rw [h,List.take_append_of_le_length (by simp)];exact List.take_of_length_le (by simp)
@[simp] theorem aW.typeU (x:aW) (v:Int):x.cells.take 34++(.int .i64 v::x.cells.drop 35)=aW.cells { x with type:=v }:=by rw [x.tk34,aW.dr35];simp [aW.cells]
@[simp] theorem aW.parent1 (x:aW):(x.cells.drop 35).take 33=x.parent.cells:=by rw [x.dr35];rw [List.take_append_of_le_length (by simp)];exact List.take_of_length_le (by simp)
theorem aW.tk35 (x:aW):x.cells.take 35=.int .i64 x.kind::(x.file.cells++([.int .i64 x.type])):=by
 have h:x.cells=(.int .i64 x.kind::(x.file.cells++([.int .i64 x.type])))++x.cells.drop 35:=by rw [x.dr35];simp [aW.cells]
 rw [h,List.take_append_of_le_length (by simp)];exact List.take_of_length_le (by simp)
@[simp] theorem aW.parentU (x:aW) (v:aI):x.cells.take 35++(v.cells++x.cells.drop 68)=aW.cells { x with parent:=v }:=by rw [x.tk35,aW.dr68];simp [aW.cells]
@[simp] theorem aW.name1 (x:aW):x.cells[68]?=some (.str x.name):=by rw [←List.head?_drop,x.dr68];rfl
@[simp] theorem aW.name2 (x:aW) (h:68<x.cells.length):x.cells[68]=.str x.name:=cJ x.name1 h
theorem aW.tk68 (x:aW):x.cells.take 68=.int .i64 x.kind::(x.file.cells++(.int .i64 x.type::(x.parent.cells))):=by
 have h:x.cells=(.int .i64 x.kind::(x.file.cells++(.int .i64 x.type::(x.parent.cells))))++x.cells.drop 68:=by rw [x.dr68];simp [aW.cells]
 rw [h,List.take_append_of_le_length (by simp)];exact List.take_of_length_le (by simp)
@[simp] theorem aW.nameU (x:aW) (v:List UInt8):x.cells.take 68++(.str v::x.cells.drop 69)=aW.cells { x with name:=v }:=by rw [x.tk68,aW.dr69];simp [aW.cells]
@[simp] theorem aW.mode1 (x:aW):x.cells[69]?=some (.int .i64 x.mode):=by rw [←List.head?_drop,x.dr69];rfl
@[simp] theorem aW.mode2 (x:aW) (h:69<x.cells.length):x.cells[69]=.int .i64 x.mode:=cJ x.mode1 h
theorem aW.tk69 (x:aW):x.cells.take 69=.int .i64 x.kind::(x.file.cells++(.int .i64 x.type::(x.parent.cells++([.str x.name])))):=by
 have h:x.cells=(.int .i64 x.kind::(x.file.cells++(.int .i64 x.type::(x.parent.cells++([.str x.name])))))++x.cells.drop 69:=by rw [x.dr69];simp [aW.cells]
 rw [h,List.take_append_of_le_length (by simp)];exact List.take_of_length_le (by simp)
@[simp] theorem aW.modeU (x:aW) (v:Int):x.cells.take 69++(.int .i64 v::x.cells.drop 70)=aW.cells { x with mode:=v }:=by rw [x.tk69,aW.dr70];simp [aW.cells]
@[simp] theorem aW.data1 (x:aW):x.cells[70]?=some (.str x.data):=by rw [←List.head?_drop,x.dr70];rfl
@[simp] theorem aW.data2 (x:aW) (h:70<x.cells.length):x.cells[70]=.str x.data:=cJ x.data1 h
theorem aW.tk70 (x:aW):x.cells.take 70=.int .i64 x.kind::(x.file.cells++(.int .i64 x.type::(x.parent.cells++(.str x.name::([.int .i64 x.mode]))))):=by
 have h:x.cells=(.int .i64 x.kind::(x.file.cells++(.int .i64 x.type::(x.parent.cells++(.str x.name::([.int .i64 x.mode]))))))++x.cells.drop 70:=by rw [x.dr70];simp [aW.cells]
 rw [h,List.take_append_of_le_length (by simp)];exact List.take_of_length_le (by simp)
@[simp] theorem aW.dataU (x:aW) (v:List UInt8):x.cells.take 70++(.str v::x.cells.drop 71)=aW.cells { x with data:=v }:=by rw [x.tk70,aW.dr71];simp [aW.cells]
@[simp] theorem aW.after1 (x:aW):(x.cells.drop 71).take 33=x.after.cells:=by rw [x.dr71];rw [List.take_append_of_le_length (by simp)];exact List.take_of_length_le (by simp)
theorem aW.tk71 (x:aW):x.cells.take 71=.int .i64 x.kind::(x.file.cells++(.int .i64 x.type::(x.parent.cells++(.str x.name::(.int .i64 x.mode::([.str x.data])))))):=by
 have h:x.cells=(.int .i64 x.kind::(x.file.cells++(.int .i64 x.type::(x.parent.cells++(.str x.name::(.int .i64 x.mode::([.str x.data])))))))++x.cells.drop 71:=by rw [x.dr71];simp [aW.cells]
 rw [h,List.take_append_of_le_length (by simp)];exact List.take_of_length_le (by simp)
@[simp] theorem aW.afterU (x:aW) (v:aI):x.cells.take 71++(v.cells++x.cells.drop 104)=aW.cells { x with after:=v }:=by rw [x.tk71,aW.dr104];simp [aW.cells]
@[simp] theorem aW.before1 (x:aW):(x.cells.drop 104).take 33=x.before.cells:=by rw [x.dr104];rw [List.take_append_of_le_length (by simp)];exact List.take_of_length_le (by simp)
theorem aW.tk104 (x:aW):x.cells.take 104=.int .i64 x.kind::(x.file.cells++(.int .i64 x.type::(x.parent.cells++(.str x.name::(.int .i64 x.mode::(.str x.data::(x.after.cells))))))):=by
 have h:x.cells=(.int .i64 x.kind::(x.file.cells++(.int .i64 x.type::(x.parent.cells++(.str x.name::(.int .i64 x.mode::(.str x.data::(x.after.cells))))))))++x.cells.drop 104:=by rw [x.dr104];simp [aW.cells]
 rw [h,List.take_append_of_le_length (by simp)];exact List.take_of_length_le (by simp)
@[simp] theorem aW.beforeU (x:aW) (v:aI):x.cells.take 104++(v.cells++x.cells.drop 137)=aW.cells { x with before:=v }:=by rw [x.tk104,aW.dr137];simp [aW.cells]
@[simp] theorem aW.lines1 (x:aW):x.cells[137]?=some (aw x.linesK (x.lines.map fU)):=by rw [←List.head?_drop,x.dr137];rfl
@[simp] theorem aW.lines2 (x:aW) (h:137<x.cells.length):x.cells[137]=aw x.linesK (x.lines.map fU):=cJ x.lines1 h
theorem aW.tk137 (x:aW):x.cells.take 137=.int .i64 x.kind::(x.file.cells++(.int .i64 x.type::(x.parent.cells++(.str x.name::(.int .i64 x.mode::(.str x.data::(x.after.cells++(x.before.cells)))))))):=by
 have h:x.cells=(.int .i64 x.kind::(x.file.cells++(.int .i64 x.type::(x.parent.cells++(.str x.name::(.int .i64 x.mode::(.str x.data::(x.after.cells++(x.before.cells)))))))))++x.cells.drop 137:=by rw [x.dr137];simp [aW.cells]
 rw [h,List.take_append_of_le_length (by simp)];exact List.take_of_length_le (by simp)
@[simp] theorem aW.linesU (x:aW) (v:List (List UInt8)) (k:SK):x.cells.take 137++(aw k (v.map fU)::x.cells.drop 138)=aW.cells { x with lines:=v,linesK:=k }:=by rw [x.tk137,aW.dr138];simp [aW.cells]
@[simp] theorem aW.linesN (x:aW):x.cells.take 137++(.nils::x.cells.drop 138)=aW.cells { x with lines:=[],linesK:=.nil }:=x.linesU [] .nil
@[simp] theorem aW.over1 (x:aW):x.cells[138]?=some (aw x.overK (x.over.map aI.cells)):=by rw [←List.head?_drop,x.dr138];rfl
@[simp] theorem aW.over2 (x:aW) (h:138<x.cells.length):x.cells[138]=aw x.overK (x.over.map aI.cells):=cJ x.over1 h
theorem aW.tk138 (x:aW):x.cells.take 138=.int .i64 x.kind::(x.file.cells++(.int .i64 x.type::(x.parent.cells++(.str x.name::(.int .i64 x.mode::(.str x.data::(x.after.cells++(x.before.cells++([aw x.linesK (x.lines.map fU)]))))))))):=by
 have h:x.cells=(.int .i64 x.kind::(x.file.cells++(.int .i64 x.type::(x.parent.cells++(.str x.name::(.int .i64 x.mode::(.str x.data::(x.after.cells++(x.before.cells++([aw x.linesK (x.lines.map fU)]))))))))))++x.cells.drop 138:=by rw [x.dr138];simp [aW.cells]
 rw [h,List.take_append_of_le_length (by simp)];exact List.take_of_length_le (by simp)
@[simp] theorem aW.overU (x:aW) (v:List aI) (k:SK):x.cells.take 138++[aw k (v.map aI.cells)]=aW.cells { x with over:=v,overK:=k }:=by rw [x.tk138];simp [aW.cells]
@[simp] theorem aW.overN (x:aW):x.cells.take 138++[.nils]=aW.cells { x with over:=[],overK:=.nil }:=x.overU [] .nil
@[simp] theorem aW.closed (x:aW):AV.closeds x.cells=true:=by
 simp [aW.cells,cZ,AV.closeds,AV.closed,cP (aM AD x.lines),cP (aM aI.closed x.over)]
structure aC where
 author:List UInt8
 message:List UInt8
 time:Int
 deps:List ar
 depsK:SK
 changes:List aW
 changesK:SK
def aC.cells (x:aC):List AV:=.str x.author::(.str x.message::(.int .i64 x.time::(aw x.depsK (x.deps.map ar.cells)::([aw x.changesK (x.changes.map aW.cells)]))))
@[simp] theorem aC.len (x:aC):x.cells.length=5:=by simp [aC.cells]
@[simp] theorem aC.leafs (x:aC):x.cells.all AV.leaf=true:=by simp only [aC.cells,List.all_append,List.all_cons,aI.leafs,ar.leafs,List.all_nil,lQ,np,nq,lG,Bool.and_self,Bool.true_and,Bool.and_true]
@[simp] theorem aC.takeAll (x:aC):x.cells.take 5=x.cells:=List.take_of_length_le (by simp)
@[simp] theorem aC.dropAll (x:aC):x.cells.drop 5=[]:=List.drop_of_length_le (by simp)
theorem aC.dr0 (x:aC):x.cells.drop 0=.str x.author::(.str x.message::(.int .i64 x.time::(aw x.depsK (x.deps.map ar.cells)::([aw x.changesK (x.changes.map aW.cells)])))):=rfl
theorem aC.dr1 (x:aC):x.cells.drop 1=.str x.message::(.int .i64 x.time::(aw x.depsK (x.deps.map ar.cells)::([aw x.changesK (x.changes.map aW.cells)]))):=by rw [show 1=0+1 from rfl,←List.drop_drop,x.dr0];rfl
theorem aC.dr2 (x:aC):x.cells.drop 2=.int .i64 x.time::(aw x.depsK (x.deps.map ar.cells)::([aw x.changesK (x.changes.map aW.cells)])):=by rw [show 2=1+1 from rfl,←List.drop_drop,x.dr1];rfl
theorem aC.dr3 (x:aC):x.cells.drop 3=aw x.depsK (x.deps.map ar.cells)::([aw x.changesK (x.changes.map aW.cells)]):=by rw [show 3=2+1 from rfl,←List.drop_drop,x.dr2];rfl
theorem aC.dr4 (x:aC):x.cells.drop 4=[aw x.changesK (x.changes.map aW.cells)]:=by rw [show 4=3+1 from rfl,←List.drop_drop,x.dr3];rfl
@[simp] theorem aC.author3 (x:aC):x.cells.head?=some (.str x.author):=Eq.trans rfl rfl
@[simp] theorem aC.message1 (x:aC):x.cells[1]?=some (.str x.message):=by rw [←List.head?_drop,x.dr1];rfl
@[simp] theorem aC.message2 (x:aC) (h:1<x.cells.length):x.cells[1]=.str x.message:=cJ x.message1 h
@[simp] theorem aC.time1 (x:aC):x.cells[2]?=some (.int .i64 x.time):=by rw [←List.head?_drop,x.dr2];rfl
@[simp] theorem aC.time2 (x:aC) (h:2<x.cells.length):x.cells[2]=.int .i64 x.time:=cJ x.time1 h
@[simp] theorem aC.deps1 (x:aC):x.cells[3]?=some (aw x.depsK (x.deps.map ar.cells)):=by rw [←List.head?_drop,x.dr3];rfl
@[simp] theorem aC.deps2 (x:aC) (h:3<x.cells.length):x.cells[3]=aw x.depsK (x.deps.map ar.cells):=cJ x.deps1 h
@[simp] theorem aC.changes1 (x:aC):x.cells[4]?=some (aw x.changesK (x.changes.map aW.cells)):=by rw [←List.head?_drop,x.dr4];rfl
@[simp] theorem aC.changes2 (x:aC) (h:4<x.cells.length):x.cells[4]=aw x.changesK (x.changes.map aW.cells):=cJ x.changes1 h
@[simp] theorem aC.closed (x:aC):AV.closeds x.cells=true:=by
 simp [aC.cells,cZ,AV.closeds,AV.closed,cP (aM ar.closed x.deps),cP (aM aW.closed x.changes)]
structure ah where
 id:ar
 patch:aC
def ah.cells (x:ah):List AV:=x.id.cells++(x.patch.cells)
@[simp] theorem ah.len (x:ah):x.cells.length=37:=by simp [ah.cells]
@[simp] theorem ah.leafs (x:ah):x.cells.all AV.leaf=true:=by simp only [ah.cells,List.all_append,List.all_cons,aI.leafs,ar.leafs,List.all_nil,lQ,np,nq,lG,Bool.and_self,Bool.true_and,Bool.and_true,aC.leafs]
@[simp] theorem ah.takeAll (x:ah):x.cells.take 37=x.cells:=List.take_of_length_le (by simp)
theorem ah.dr0 (x:ah):x.cells.drop 0=x.id.cells++(x.patch.cells):=rfl
theorem ah.dr32 (x:ah):x.cells.drop 32=x.patch.cells:=by rw [show 32=0+32 from rfl,←List.drop_drop,x.dr0,dY (n:=32) (by simp) (by decide)];rfl
theorem ah.id0 (x:ah):x.cells.take 32=x.id.cells:=by show (x.id.cells++(x.patch.cells)).take 32=_;rw [List.take_append_of_le_length (by simp)];exact List.take_of_length_le (by simp)
@[simp] theorem ah.id1 (x:ah):AV.agg (x.cells.take 32)=AV.agg (x.id.cells):=by rw [x.id0]
@[simp] theorem ah.patch1 (x:ah):x.cells.drop 32=x.patch.cells:=x.dr32
@[simp] theorem ah.closed (x:ah):AV.closeds x.cells=true:=by
 simp [ah.cells,cZ,AV.closeds,AV.closed]
end Go.Proofs.Ev
namespace Go.Proofs.Ev
open Go.Proofs Go.ChangeShapes Go.WideShapes Go.ChangeAt Go.RowKit Go.Deep
open Go.Proofs.YtbpaeodbnleoaaaGreatDoor (Rows.uptoBulk Rows.uptoBulkAll)
def vn:fE:=⟨fun _=>none,fun _=>False⟩
theorem He (cb:Nat):cK vn cb:=⟨fun b L h=>(by cases h),fun h=>h⟩
def Is (W:World) (avs:List AV) (cs:List Value):Prop:=cs.length=avs.length∧∀(j:Nat) (v:AV),avs[j]?=some v→v.leaf=true∧∃V,cs[j]?=some V∧RV vn 0 W v V
section
variable {X:Type} {enc:TypeId×Value→X} {W:World} {d:DataW X} {p:List MemPlace} {cs:List Value} {fuel:Nat} {t:TypeId}
theorem Is.one {v:AV} {V:Value} (hl:v.leaf=true) (h:RV vn 0 W v V):Is W [v] [V]:=⟨rfl,fun j x hj=>by
 cases j with
 | zero=>simp only [List.getElem?_cons_zero,Option.some.injEq] at hj;subst hj;exact ⟨hl,V,rfl,h⟩
 | succ j=>simp at hj⟩
theorem Is.append {a b:List AV} {cs ds:List Value} (h:Is W a cs) (k:Is W b ds):Is W (a++b) (cs++ds):=by
 refine ⟨by simp [h.1,k.1],fun j v hj=>?_⟩
 rcases Nat.lt_or_ge j a.length with hlt | hge
 ·rw [List.getElem?_append_left hlt] at hj
  rw [List.getElem?_append_left (by rw [h.1];exact hlt)]
  exact h.2 j v hj
 ·rw [List.getElem?_append_right hge] at hj
  rw [List.getElem?_append_right (by rw [h.1];exact hge),h.1]
  exact k.2 _ v hj
theorem Is.cut {a b:List AV} {n o m:Nat} (h:Is W a ((cs.drop o).take n)) (k:Is W b (cs.drop m)) (hm:m=o+n):Is W (a++b) (cs.drop o):=by
 have e:cs.drop o=(cs.drop o).take n++cs.drop m:=by rw [hm,←List.drop_drop,List.take_append_drop]
 rw [e];exact h.append k
theorem Is.nil {n:Nat} (h:cs.length=n):Is W [] (cs.drop n):=⟨by simp [h],fun j v hj=>by simp at hj⟩
def mR {α:Type} (W:World) (t:TypeId) (cells:α→List AV) (wt:α→Nat):Prop :=
 ∀(X:Type) (enc:TypeId×Value→X) (fuel:Nat) (cs:List Value) (d:DataW X) (p:List MemPlace),DataW.trod enc Tryz.prog W 0 (fun _=>true) true fuel t cs=some (d,p)→∃x:α,Is W (cells x) cs∧wt x≤Rows.uptoBulk d
theorem Fc {k:IntKind} (ht:Tryz.prog.underlying t=some (.int k)):mR W t (fun n:Int=>[.int k n]) (fun _=>1):=by
 intro X enc fuel cs d p h
 obtain ⟨n,rfl,hx,_⟩:=DataW.trod_int ht h
 cases hx
 exact ⟨n,.one rfl (.int k n),Nat.le_refl _⟩
theorem Fd (ht:Tryz.prog.underlying t=some .string):mR W t (fun l:List UInt8=>[.str l]) (fun l=>l.length+1):=by
 intro X enc fuel cs d p h
 obtain ⟨s,rfl,hx,_⟩:=DataW.trod_string ht h
 obtain ⟨⟨l⟩⟩:=s
 cases hx
 exact ⟨l,.one rfl (.str l),Nat.le_refl _⟩
theorem O6 {n:Int} (h:(Lit.int .u8 n).wf=true):0≤n∧n<256:=by
 simp [Lit.wf,IntKind.min,IntKind.max,IntKind.bits,IntKind.signed] at h
 omega
theorem Fb (hc:Tryz.prog.cellsOf t=32) (ht:Tryz.prog.underlying t=some (.array 32 5)):mR W t ar.cells (fun _=>1):=by
 intro X enc fuel cs d p h
 obtain ⟨xs,m,rfl,hx,hl,hxl,hg⟩:=DataW.trod_array ht h
 cases hx
 have hc5:Tryz.prog.cellsOf 5=1:=by kernel_rfl
 rw [hc] at hl
 have key:∀j,j<32→∃n:Nat,n<256∧cs[j]?=some (.int .u8 (n:Int)):=by
  intro j hj
  have h1:=hg j hj
  rw [hc5,Nat.mul_one] at h1
  obtain ⟨x,hx⟩:∃x,xs[j]?=some x:=⟨xs[j]'(by omega),List.getElem?_eq_getElem _⟩
  rw [hx] at h1
  obtain ⟨n,hn,_,hw⟩:=DataW.trod_int Tryz.underlying5 h1
  have:=O6 hw
  refine ⟨n.toNat,by omega,?_⟩
  have e:((cs.drop j).take 1)[0]?=some (Value.int .u8 n):=by rw [hn];rfl
  rw [List.getElem?_take,if_pos (by omega),List.getElem?_drop,Nat.add_zero] at e
  rw [e,Int.toNat_of_nonneg this.1]
 obtain ⟨f,hf⟩:=choose_lt key
 refine ⟨⟨(List.range 32).map f,by simp,fun x hx=>?_⟩,?_,by simp [Rows.uptoBulk]⟩
 ·obtain ⟨i,hi,rfl⟩:=List.mem_map.1 hx
  exact (hf i (List.mem_range.1 hi)).1
 ·refine ⟨by simp [hl],fun j v hj=>?_⟩
  have hj32:j<32:=by have:=bh hj;simpa using this
  have e:v=.int .u8 (f j:Int):=by
   simp only [ar.cells,Ev.dig,List.getElem?_map] at hj
   rw [List.getElem?_eq_getElem (by simpa using hj32)] at hj
   simpa using hj.symm
  subst e
  exact ⟨rfl,_,(hf j hj32).2,.int _ _⟩
theorem Gp {α:Type} (l:List α) (D:α→DataW X) (g:α→Nat) (h:∀i∈l,g i≤Rows.uptoBulk (D i)):(l.map g).sum≤Rows.uptoBulkAll (l.map D):=by
 induction l with
 | nil=>exact Nat.zero_le _
 | cons x r ih =>
  have h1:=h x (by simp)
  have h2:=ih (fun i hi=>h i (by simp [hi]))
  simp only [List.map_cons,List.sum_cons,Rows.uptoBulkAll]
  omega
theorem jB {α:Type} {e n:Nat} {cells:α→List AV} {wt:α→Nat} (ht:Tryz.prog.underlying t=some (.slice e)) (hc:Tryz.prog.cellsOf e=n) (hn:0<n) (hlen:∀x,(cells x).length=n) (he:mR W e cells wt) :
 mR W t (fun l:List α=>[aw .loose (l.map cells)]) (fun l=>(l.map wt).sum+1):=by
 intro X enc fuel cs d p h
 rcases open_slice ht h with ⟨rfl,hx⟩ | ⟨a,len,cap,m,nf,D,Pl,rfl,_,hl,hm,hmm,hx,hi⟩
 ·cases hx
  refine ⟨[],.one (by simp) ?_,by simp [Rows.uptoBulk]⟩
  exact .lst (fun _ _=>.bool false) 0 rfl (Nat.le_refl _) (fun h=>by cases h) (fun h=>absurd rfl h) (fun i row hi=>by simp at hi)
 ·cases hx
  simp only [if_true] at hmm
  have key:∀i,i<len→∃y:α×List Value,Is W (cells y.1) y.2∧wt y.1≤Rows.uptoBulk (D i)∧∀j,j<n→W.cell? ((a.add (i*n)).add j)=y.2[j]?:=by
   intro i hil
   obtain ⟨cs',h1,h2⟩:=hi i (by omega)
   rw [hc] at h1
   obtain ⟨_,h3,h4⟩:=World.cells?_some h1
   obtain ⟨x,g1,g2⟩:=he X enc _ _ _ _ h2
   exact ⟨(x,cs'),g1,g2,h4⟩
  by_cases hne:len=0
  ·subst hne
   refine ⟨[],.one (by simp) ?_,by simp [Rows.uptoBulk,Rows.uptoBulkAll]⟩
   exact .lst (fun _ _=>.bool false) 0 rfl (Nat.zero_le _) (fun h=>by cases h) (fun h=>absurd rfl h) (fun i row hi=>by simp at hi)
  have:Inhabited (α×List Value):=⟨(key 0 (by omega)).choose⟩
  obtain ⟨f,hf⟩:=choose_lt key
  refine ⟨(List.range len).map fun i=>(f i).1,.one (by simp) ?_,?_⟩
  ·refine .lst (fun i j=>((f i).2[j]?).getD (.bool false)) n (by simp) hl (fun h=>by cases h) (fun _=>?_) (fun i row hi j v hj=>?_)
   ·obtain ⟨b,off,spot⟩:=a
    have hspot:spot=none:=by
     obtain ⟨g1,_,g3⟩:=hf 0 (by omega)
     have h0:=g3 0 hn
     have hx:=g1.1
     rw [hlen] at hx
     rw [List.getElem?_eq_getElem (by omega)] at h0
     have:=World.cell?_spot h0
     simpa [Addr.add] using this
    subst hspot
    refine ⟨b,off,rfl,fun i row hi=>?_⟩
    obtain ⟨i',hi',rfl⟩:∃i',(List.range len)[i]?=some i'∧cells (f i').1=row:=by
     simp only [List.map_map,List.getElem?_map,Option.map_eq_some_iff] at hi
     obtain ⟨a1,a2,a3⟩:=hi
     exact ⟨a1,a2,a3⟩
    have hil:i<len:=by have:=bh hi';simpa using this
    obtain rfl:i'=i:=by rw [List.getElem?_eq_getElem (by simpa using hil)] at hi';simpa using hi'.symm
    obtain ⟨g1,_,g3⟩:=hf i' hil
    refine ⟨hlen _,fun j v hj=>?_⟩
    have hjn:j<n:=by have:=bh hj;rwa [hlen] at this
    obtain ⟨e1,V,e2,e3⟩:=g1.2 j v hj
    refine ⟨e1,He _,?_⟩
    have:=g3 j hjn
    have eadd:((⟨b,off,none⟩:Addr).add (i'*n)).add j=⟨b,off+i'*n+j,none⟩:=by
     unfold Addr.add
     by_cases h1:i'*n=0<;>by_cases h2:j=0<;>simp [h1,h2]
    rw [eadd,e2] at this
    rw [this,e2];rfl
   ·obtain ⟨i',hi',rfl⟩:∃i',(List.range len)[i]?=some i'∧cells (f i').1=row:=by
     simp only [List.map_map,List.getElem?_map,Option.map_eq_some_iff] at hi
     obtain ⟨a1,a2,a3⟩:=hi
     exact ⟨a1,a2,a3⟩
    have hil:i<len:=by have:=bh hi';simpa using this
    obtain rfl:i'=i:=by rw [List.getElem?_eq_getElem (by simpa using hil)] at hi';simpa using hi'.symm
    obtain ⟨e1,V,e2,e3⟩:=(hf i' hil).1.2 j v hj
    rw [e2];exact e3
  ·have h1:=Gp (List.range len) D (fun i=>wt (f i).1) (fun i hi=>(hf i (List.mem_range.1 hi)).2.1)
   simp only [Rows.uptoBulk,List.map_map,Function.comp_def] at h1 ⊢
   omega
end
end Go.Proofs.Ev
