/- Part 7 of the proof that quiltlaw38.BlameNames returns true: no statement of its own. -/
import Derived.Test.YtckbkhfaahpanaaGreatDoorN6
import Derived.Test.YtckbkhfaahpanaaGreatDoorTie
import Derived.Deep.Slices
import Derived.OpenShut
import Derived.RowKit
import Derived.WideShapes
import Derived.ChangeAt
set_option linter.all false
namespace Go.Proofs.Ev
def strC (s:List UInt8):List AV:=[.str s]
theorem strC_closed (s:List UInt8):AV.closeds (strC s)=true:=rfl
@[simp] theorem strC_len (s:List UInt8):(strC s).length=1:=rfl
structure DigV where
 d:List Nat
 h:d.length=32
 b:∀x∈d,x<256
def DigV.cells (x:DigV):List AV:=dig x.d
@[simp] theorem DigV.len (x:DigV):x.cells.length=32:=by simp [DigV.cells,x.h]
@[simp] theorem DigV.leafs (x:DigV):x.cells.all AV.leaf=true:=by simp [DigV.cells]
@[simp] theorem DigV.closed (x:DigV):AV.closeds x.cells=true:=closeds_dig _
@[simp] theorem DigV.take32 (x:DigV):x.cells.take 32=x.cells:=List.take_of_length_le (by simp)
structure AtV where
 id:IdV
 kind:Int
 file:IdV
 type:Int
 parent:IdV
 name:List UInt8
 mode:Int
 data:List UInt8
 text:List UInt8
 frm:IdV
 to:IdV
 over:List IdV
 overK:SK
def AtV.cells (x:AtV):List AV:=x.id.cells++(.int .i64 x.kind::(x.file.cells++(.int .i64 x.type::(x.parent.cells++(.str x.name::(.int .i64 x.mode::(.str x.data::(.str x.text::(x.frm.cells++(x.to.cells++([slAV x.overK (x.over.map IdV.cells)])))))))))))
@[simp] theorem AtV.len (x:AtV):x.cells.length=172:=by simp [AtV.cells]
@[simp] theorem AtV.leafs (x:AtV):x.cells.all AV.leaf=true:=by simp only [AtV.cells,List.all_append,List.all_cons,IdV.leafs,DigV.leafs,List.all_nil,slAV_leaf,leaf_int,leaf_str,leaf_bool,Bool.and_self,Bool.true_and,Bool.and_true]
@[simp] theorem AtV.takeAll (x:AtV):x.cells.take 172=x.cells:=List.take_of_length_le (by simp)
@[simp] theorem AtV.dropAll (x:AtV):x.cells.drop 172=[]:=List.drop_of_length_le (by simp)
theorem AtV.dr0 (x:AtV):x.cells.drop 0=x.id.cells++(.int .i64 x.kind::(x.file.cells++(.int .i64 x.type::(x.parent.cells++(.str x.name::(.int .i64 x.mode::(.str x.data::(.str x.text::(x.frm.cells++(x.to.cells++([slAV x.overK (x.over.map IdV.cells)]))))))))))):=rfl
theorem AtV.dr33 (x:AtV):x.cells.drop 33=.int .i64 x.kind::(x.file.cells++(.int .i64 x.type::(x.parent.cells++(.str x.name::(.int .i64 x.mode::(.str x.data::(.str x.text::(x.frm.cells++(x.to.cells++([slAV x.overK (x.over.map IdV.cells)])))))))))):=by rw [show 33=0+33 from rfl,←List.drop_drop,x.dr0,drop_skip (n:=33) (by simp) (by decide)];rfl
theorem AtV.dr34 (x:AtV):x.cells.drop 34=x.file.cells++(.int .i64 x.type::(x.parent.cells++(.str x.name::(.int .i64 x.mode::(.str x.data::(.str x.text::(x.frm.cells++(x.to.cells++([slAV x.overK (x.over.map IdV.cells)]))))))))):=by rw [show 34=33+1 from rfl,←List.drop_drop,x.dr33];rfl
theorem AtV.dr67 (x:AtV):x.cells.drop 67=.int .i64 x.type::(x.parent.cells++(.str x.name::(.int .i64 x.mode::(.str x.data::(.str x.text::(x.frm.cells++(x.to.cells++([slAV x.overK (x.over.map IdV.cells)])))))))):=by rw [show 67=34+33 from rfl,←List.drop_drop,x.dr34,drop_skip (n:=33) (by simp) (by decide)];rfl
theorem AtV.dr68 (x:AtV):x.cells.drop 68=x.parent.cells++(.str x.name::(.int .i64 x.mode::(.str x.data::(.str x.text::(x.frm.cells++(x.to.cells++([slAV x.overK (x.over.map IdV.cells)]))))))):=by rw [show 68=67+1 from rfl,←List.drop_drop,x.dr67];rfl
theorem AtV.dr101 (x:AtV):x.cells.drop 101=.str x.name::(.int .i64 x.mode::(.str x.data::(.str x.text::(x.frm.cells++(x.to.cells++([slAV x.overK (x.over.map IdV.cells)])))))):=by rw [show 101=68+33 from rfl,←List.drop_drop,x.dr68,drop_skip (n:=33) (by simp) (by decide)];rfl
theorem AtV.dr102 (x:AtV):x.cells.drop 102=.int .i64 x.mode::(.str x.data::(.str x.text::(x.frm.cells++(x.to.cells++([slAV x.overK (x.over.map IdV.cells)]))))):=by rw [show 102=101+1 from rfl,←List.drop_drop,x.dr101];rfl
theorem AtV.dr103 (x:AtV):x.cells.drop 103=.str x.data::(.str x.text::(x.frm.cells++(x.to.cells++([slAV x.overK (x.over.map IdV.cells)])))):=by rw [show 103=102+1 from rfl,←List.drop_drop,x.dr102];rfl
theorem AtV.dr104 (x:AtV):x.cells.drop 104=.str x.text::(x.frm.cells++(x.to.cells++([slAV x.overK (x.over.map IdV.cells)]))):=by rw [show 104=103+1 from rfl,←List.drop_drop,x.dr103];rfl
theorem AtV.dr105 (x:AtV):x.cells.drop 105=x.frm.cells++(x.to.cells++([slAV x.overK (x.over.map IdV.cells)])):=by rw [show 105=104+1 from rfl,←List.drop_drop,x.dr104];rfl
theorem AtV.dr138 (x:AtV):x.cells.drop 138=x.to.cells++([slAV x.overK (x.over.map IdV.cells)]):=by rw [show 138=105+33 from rfl,←List.drop_drop,x.dr105,drop_skip (n:=33) (by simp) (by decide)];rfl
theorem AtV.dr171 (x:AtV):x.cells.drop 171=[slAV x.overK (x.over.map IdV.cells)]:=by rw [show 171=138+33 from rfl,←List.drop_drop,x.dr138,drop_skip (n:=33) (by simp) (by decide)];rfl
theorem AtV.id0 (x:AtV):x.cells.take 33=x.id.cells:=by show (x.id.cells++(.int .i64 x.kind::(x.file.cells++(.int .i64 x.type::(x.parent.cells++(.str x.name::(.int .i64 x.mode::(.str x.data::(.str x.text::(x.frm.cells++(x.to.cells++([slAV x.overK (x.over.map IdV.cells)])))))))))))).take 33=_;rw [List.take_append_of_le_length (by simp)];exact List.take_of_length_le (by simp)
@[simp] theorem AtV.id1 (x:AtV):AV.agg (x.cells.take 33)=AV.agg (x.id.cells):=by rw [x.id0]
@[simp] theorem AtV.idU (x:AtV) (v:IdV):(v.cells++x.cells.drop 33)=AtV.cells { x with id:=v }:=by rw [x.dr33];rfl
@[simp] theorem AtV.kind1 (x:AtV):x.cells[33]?=some (.int .i64 x.kind):=by rw [←List.head?_drop,x.dr33];rfl
@[simp] theorem AtV.kind2 (x:AtV) (h:33<x.cells.length):x.cells[33]=.int .i64 x.kind:=getElem_of x.kind1 h
theorem AtV.tk33 (x:AtV):x.cells.take 33=x.id.cells:=by
 have h:x.cells=(x.id.cells)++x.cells.drop 33:=by rw [x.dr33];simp [AtV.cells]
 rw [h,List.take_append_of_le_length (by simp)];exact List.take_of_length_le (by simp)
@[simp] theorem AtV.kindU (x:AtV) (v:Int):x.cells.take 33++(.int .i64 v::x.cells.drop 34)=AtV.cells { x with kind:=v }:=by rw [x.tk33,AtV.dr34];simp [AtV.cells]
@[simp] theorem AtV.file1 (x:AtV):(x.cells.drop 34).take 33=x.file.cells:=by rw [x.dr34];rw [List.take_append_of_le_length (by simp)];exact List.take_of_length_le (by simp)
theorem AtV.tk34 (x:AtV):x.cells.take 34=x.id.cells++([.int .i64 x.kind]):=by
 have h:x.cells=(x.id.cells++([.int .i64 x.kind]))++x.cells.drop 34:=by rw [x.dr34];simp [AtV.cells]
 rw [h,List.take_append_of_le_length (by simp)];exact List.take_of_length_le (by simp)
@[simp] theorem AtV.fileU (x:AtV) (v:IdV):x.cells.take 34++(v.cells++x.cells.drop 67)=AtV.cells { x with file:=v }:=by rw [x.tk34,AtV.dr67];simp [AtV.cells]
@[simp] theorem AtV.type1 (x:AtV):x.cells[67]?=some (.int .i64 x.type):=by rw [←List.head?_drop,x.dr67];rfl
@[simp] theorem AtV.type2 (x:AtV) (h:67<x.cells.length):x.cells[67]=.int .i64 x.type:=getElem_of x.type1 h
theorem AtV.tk67 (x:AtV):x.cells.take 67=x.id.cells++(.int .i64 x.kind::(x.file.cells)):=by
 have h:x.cells=(x.id.cells++(.int .i64 x.kind::(x.file.cells)))++x.cells.drop 67:=by rw [x.dr67];simp [AtV.cells]
 rw [h,List.take_append_of_le_length (by simp)];exact List.take_of_length_le (by simp)
@[simp] theorem AtV.typeU (x:AtV) (v:Int):x.cells.take 67++(.int .i64 v::x.cells.drop 68)=AtV.cells { x with type:=v }:=by rw [x.tk67,AtV.dr68];simp [AtV.cells]
@[simp] theorem AtV.parent1 (x:AtV):(x.cells.drop 68).take 33=x.parent.cells:=by rw [x.dr68];rw [List.take_append_of_le_length (by simp)];exact List.take_of_length_le (by simp)
theorem AtV.tk68 (x:AtV):x.cells.take 68=x.id.cells++(.int .i64 x.kind::(x.file.cells++([.int .i64 x.type]))):=by
 have h:x.cells=(x.id.cells++(.int .i64 x.kind::(x.file.cells++([.int .i64 x.type]))))++x.cells.drop 68:=by rw [x.dr68];simp [AtV.cells]
 rw [h,List.take_append_of_le_length (by simp)];exact List.take_of_length_le (by simp)
@[simp] theorem AtV.parentU (x:AtV) (v:IdV):x.cells.take 68++(v.cells++x.cells.drop 101)=AtV.cells { x with parent:=v }:=by rw [x.tk68,AtV.dr101];simp [AtV.cells]
@[simp] theorem AtV.name1 (x:AtV):x.cells[101]?=some (.str x.name):=by rw [←List.head?_drop,x.dr101];rfl
@[simp] theorem AtV.name2 (x:AtV) (h:101<x.cells.length):x.cells[101]=.str x.name:=getElem_of x.name1 h
theorem AtV.tk101 (x:AtV):x.cells.take 101=x.id.cells++(.int .i64 x.kind::(x.file.cells++(.int .i64 x.type::(x.parent.cells)))):=by
 have h:x.cells=(x.id.cells++(.int .i64 x.kind::(x.file.cells++(.int .i64 x.type::(x.parent.cells)))))++x.cells.drop 101:=by rw [x.dr101];simp [AtV.cells]
 rw [h,List.take_append_of_le_length (by simp)];exact List.take_of_length_le (by simp)
@[simp] theorem AtV.nameU (x:AtV) (v:List UInt8):x.cells.take 101++(.str v::x.cells.drop 102)=AtV.cells { x with name:=v }:=by rw [x.tk101,AtV.dr102];simp [AtV.cells]
theorem AtV.tk102 (x:AtV):x.cells.take 102=x.id.cells++(.int .i64 x.kind::(x.file.cells++(.int .i64 x.type::(x.parent.cells++([.str x.name]))))):=by
 have h:x.cells=(x.id.cells++(.int .i64 x.kind::(x.file.cells++(.int .i64 x.type::(x.parent.cells++([.str x.name]))))))++x.cells.drop 102:=by rw [x.dr102];simp [AtV.cells]
 rw [h,List.take_append_of_le_length (by simp)];exact List.take_of_length_le (by simp)
@[simp] theorem AtV.modeU (x:AtV) (v:Int):x.cells.take 102++(.int .i64 v::x.cells.drop 103)=AtV.cells { x with mode:=v }:=by rw [x.tk102,AtV.dr103];simp [AtV.cells]
theorem AtV.tk103 (x:AtV):x.cells.take 103=x.id.cells++(.int .i64 x.kind::(x.file.cells++(.int .i64 x.type::(x.parent.cells++(.str x.name::([.int .i64 x.mode])))))):=by
 have h:x.cells=(x.id.cells++(.int .i64 x.kind::(x.file.cells++(.int .i64 x.type::(x.parent.cells++(.str x.name::([.int .i64 x.mode])))))))++x.cells.drop 103:=by rw [x.dr103];simp [AtV.cells]
 rw [h,List.take_append_of_le_length (by simp)];exact List.take_of_length_le (by simp)
@[simp] theorem AtV.dataU (x:AtV) (v:List UInt8):x.cells.take 103++(.str v::x.cells.drop 104)=AtV.cells { x with data:=v }:=by rw [x.tk103,AtV.dr104];simp [AtV.cells]
theorem AtV.tk104 (x:AtV):x.cells.take 104=x.id.cells++(.int .i64 x.kind::(x.file.cells++(.int .i64 x.type::(x.parent.cells++(.str x.name::(.int .i64 x.mode::([.str x.data]))))))):=by
 have h:x.cells=(x.id.cells++(.int .i64 x.kind::(x.file.cells++(.int .i64 x.type::(x.parent.cells++(.str x.name::(.int .i64 x.mode::([.str x.data]))))))))++x.cells.drop 104:=by rw [x.dr104];simp [AtV.cells]
 rw [h,List.take_append_of_le_length (by simp)];exact List.take_of_length_le (by simp)
@[simp] theorem AtV.textU (x:AtV) (v:List UInt8):x.cells.take 104++(.str v::x.cells.drop 105)=AtV.cells { x with text:=v }:=by rw [x.tk104,AtV.dr105];simp [AtV.cells]
@[simp] theorem AtV.frm1 (x:AtV):(x.cells.drop 105).take 33=x.frm.cells:=by rw [x.dr105];rw [List.take_append_of_le_length (by simp)];exact List.take_of_length_le (by simp)
theorem AtV.tk105 (x:AtV):x.cells.take 105=x.id.cells++(.int .i64 x.kind::(x.file.cells++(.int .i64 x.type::(x.parent.cells++(.str x.name::(.int .i64 x.mode::(.str x.data::([.str x.text])))))))):=by
 have h:x.cells=(x.id.cells++(.int .i64 x.kind::(x.file.cells++(.int .i64 x.type::(x.parent.cells++(.str x.name::(.int .i64 x.mode::(.str x.data::([.str x.text])))))))))++x.cells.drop 105:=by rw [x.dr105];simp [AtV.cells]
 rw [h,List.take_append_of_le_length (by simp)];exact List.take_of_length_le (by simp)
@[simp] theorem AtV.frmU (x:AtV) (v:IdV):x.cells.take 105++(v.cells++x.cells.drop 138)=AtV.cells { x with frm:=v }:=by rw [x.tk105,AtV.dr138];simp [AtV.cells]
@[simp] theorem AtV.to1 (x:AtV):(x.cells.drop 138).take 33=x.to.cells:=by rw [x.dr138];rw [List.take_append_of_le_length (by simp)];exact List.take_of_length_le (by simp)
theorem AtV.tk138 (x:AtV):x.cells.take 138=x.id.cells++(.int .i64 x.kind::(x.file.cells++(.int .i64 x.type::(x.parent.cells++(.str x.name::(.int .i64 x.mode::(.str x.data::(.str x.text::(x.frm.cells))))))))):=by
 have h:x.cells=(x.id.cells++(.int .i64 x.kind::(x.file.cells++(.int .i64 x.type::(x.parent.cells++(.str x.name::(.int .i64 x.mode::(.str x.data::(.str x.text::(x.frm.cells))))))))))++x.cells.drop 138:=by rw [x.dr138];simp [AtV.cells]
 rw [h,List.take_append_of_le_length (by simp)];exact List.take_of_length_le (by simp)
@[simp] theorem AtV.toU (x:AtV) (v:IdV):x.cells.take 138++(v.cells++x.cells.drop 171)=AtV.cells { x with to:=v }:=by rw [x.tk138,AtV.dr171];simp [AtV.cells]
@[simp] theorem AtV.over1 (x:AtV):x.cells[171]?=some (slAV x.overK (x.over.map IdV.cells)):=by rw [←List.head?_drop,x.dr171];rfl
@[simp] theorem AtV.over2 (x:AtV) (h:171<x.cells.length):x.cells[171]=slAV x.overK (x.over.map IdV.cells):=getElem_of x.over1 h
theorem AtV.tk171 (x:AtV):x.cells.take 171=x.id.cells++(.int .i64 x.kind::(x.file.cells++(.int .i64 x.type::(x.parent.cells++(.str x.name::(.int .i64 x.mode::(.str x.data::(.str x.text::(x.frm.cells++(x.to.cells)))))))))):=by
 have h:x.cells=(x.id.cells++(.int .i64 x.kind::(x.file.cells++(.int .i64 x.type::(x.parent.cells++(.str x.name::(.int .i64 x.mode::(.str x.data::(.str x.text::(x.frm.cells++(x.to.cells)))))))))))++x.cells.drop 171:=by rw [x.dr171];simp [AtV.cells]
 rw [h,List.take_append_of_le_length (by simp)];exact List.take_of_length_le (by simp)
@[simp] theorem AtV.overU (x:AtV) (v:List IdV) (k:SK):x.cells.take 171++[slAV k (v.map IdV.cells)]=AtV.cells { x with over:=v,overK:=k }:=by rw [x.tk171];simp [AtV.cells]
@[simp] theorem AtV.closed (x:AtV):AV.closeds x.cells=true:=by
 simp [AtV.cells,closeds_append,AV.closeds,AV.closed,slAV_closed (closedss_map IdV.closed x.over)]
def zeroAt:AtV:=⟨zeroId,0,zeroId,0,zeroId,[],0,[],[],zeroId,zeroId,[],.nil⟩
theorem zeroAt_cells:zeroId.cells++[.int .i64 0]++zeroId.cells++[.int .i64 0]++zeroId.cells++[.str [],.int .i64 0,.str [],.str []]++zeroId.cells++zeroId.cells++[.nils]=zeroAt.cells:=by
 simp [AtV.cells,zeroAt,slAV]
@[simp] theorem zeroAt_cells2:zeroId.cells++AV.int .i64 0::(zeroId.cells++AV.int .i64 0::(zeroId.cells++AV.str []::AV.int .i64 0::AV.str []::AV.str []::(zeroId.cells++(zeroId.cells++[AV.nils]))))=zeroAt.cells:=by
 rw [←zeroAt_cells];simp
@[simp] theorem IdV.nU2 (x:IdV) (v:Int):Ev.dig x.d++[.int .i64 v]=IdV.cells { x with n:=v }:=rfl
structure ChV where
 kind:Int
 file:IdV
 type:Int
 parent:IdV
 name:List UInt8
 mode:Int
 data:List UInt8
 after:IdV
 before:IdV
 lines:List (List UInt8)
 linesK:SK
 over:List IdV
 overK:SK
def ChV.cells (x:ChV):List AV:=.int .i64 x.kind::(x.file.cells++(.int .i64 x.type::(x.parent.cells++(.str x.name::(.int .i64 x.mode::(.str x.data::(x.after.cells++(x.before.cells++(slAV x.linesK (x.lines.map strC)::([slAV x.overK (x.over.map IdV.cells)]))))))))))
@[simp] theorem ChV.len (x:ChV):x.cells.length=139:=by simp [ChV.cells]
@[simp] theorem ChV.leafs (x:ChV):x.cells.all AV.leaf=true:=by simp only [ChV.cells,List.all_append,List.all_cons,IdV.leafs,DigV.leafs,List.all_nil,slAV_leaf,leaf_int,leaf_str,leaf_bool,Bool.and_self,Bool.true_and,Bool.and_true]
@[simp] theorem ChV.takeAll (x:ChV):x.cells.take 139=x.cells:=List.take_of_length_le (by simp)
@[simp] theorem ChV.dropAll (x:ChV):x.cells.drop 139=[]:=List.drop_of_length_le (by simp)
theorem ChV.dr0 (x:ChV):x.cells.drop 0=.int .i64 x.kind::(x.file.cells++(.int .i64 x.type::(x.parent.cells++(.str x.name::(.int .i64 x.mode::(.str x.data::(x.after.cells++(x.before.cells++(slAV x.linesK (x.lines.map strC)::([slAV x.overK (x.over.map IdV.cells)])))))))))):=rfl
theorem ChV.dr1 (x:ChV):x.cells.drop 1=x.file.cells++(.int .i64 x.type::(x.parent.cells++(.str x.name::(.int .i64 x.mode::(.str x.data::(x.after.cells++(x.before.cells++(slAV x.linesK (x.lines.map strC)::([slAV x.overK (x.over.map IdV.cells)]))))))))):=by rw [show 1=0+1 from rfl,←List.drop_drop,x.dr0];rfl
theorem ChV.dr34 (x:ChV):x.cells.drop 34=.int .i64 x.type::(x.parent.cells++(.str x.name::(.int .i64 x.mode::(.str x.data::(x.after.cells++(x.before.cells++(slAV x.linesK (x.lines.map strC)::([slAV x.overK (x.over.map IdV.cells)])))))))):=by rw [show 34=1+33 from rfl,←List.drop_drop,x.dr1,drop_skip (n:=33) (by simp) (by decide)];rfl
theorem ChV.dr35 (x:ChV):x.cells.drop 35=x.parent.cells++(.str x.name::(.int .i64 x.mode::(.str x.data::(x.after.cells++(x.before.cells++(slAV x.linesK (x.lines.map strC)::([slAV x.overK (x.over.map IdV.cells)]))))))):=by rw [show 35=34+1 from rfl,←List.drop_drop,x.dr34];rfl
theorem ChV.dr68 (x:ChV):x.cells.drop 68=.str x.name::(.int .i64 x.mode::(.str x.data::(x.after.cells++(x.before.cells++(slAV x.linesK (x.lines.map strC)::([slAV x.overK (x.over.map IdV.cells)])))))):=by rw [show 68=35+33 from rfl,←List.drop_drop,x.dr35,drop_skip (n:=33) (by simp) (by decide)];rfl
theorem ChV.dr69 (x:ChV):x.cells.drop 69=.int .i64 x.mode::(.str x.data::(x.after.cells++(x.before.cells++(slAV x.linesK (x.lines.map strC)::([slAV x.overK (x.over.map IdV.cells)]))))):=by rw [show 69=68+1 from rfl,←List.drop_drop,x.dr68];rfl
theorem ChV.dr70 (x:ChV):x.cells.drop 70=.str x.data::(x.after.cells++(x.before.cells++(slAV x.linesK (x.lines.map strC)::([slAV x.overK (x.over.map IdV.cells)])))):=by rw [show 70=69+1 from rfl,←List.drop_drop,x.dr69];rfl
theorem ChV.dr71 (x:ChV):x.cells.drop 71=x.after.cells++(x.before.cells++(slAV x.linesK (x.lines.map strC)::([slAV x.overK (x.over.map IdV.cells)]))):=by rw [show 71=70+1 from rfl,←List.drop_drop,x.dr70];rfl
theorem ChV.dr104 (x:ChV):x.cells.drop 104=x.before.cells++(slAV x.linesK (x.lines.map strC)::([slAV x.overK (x.over.map IdV.cells)])):=by rw [show 104=71+33 from rfl,←List.drop_drop,x.dr71,drop_skip (n:=33) (by simp) (by decide)];rfl
theorem ChV.dr137 (x:ChV):x.cells.drop 137=slAV x.linesK (x.lines.map strC)::([slAV x.overK (x.over.map IdV.cells)]):=by rw [show 137=104+33 from rfl,←List.drop_drop,x.dr104,drop_skip (n:=33) (by simp) (by decide)];rfl
theorem ChV.dr138 (x:ChV):x.cells.drop 138=[slAV x.overK (x.over.map IdV.cells)]:=by rw [show 138=137+1 from rfl,←List.drop_drop,x.dr137];rfl
@[simp] theorem ChV.kind3 (x:ChV):x.cells.head?=some (.int .i64 x.kind):=Eq.trans rfl rfl
@[simp] theorem ChV.file1 (x:ChV):(x.cells.drop 1).take 33=x.file.cells:=by rw [x.dr1];rw [List.take_append_of_le_length (by simp)];exact List.take_of_length_le (by simp)
@[simp] theorem ChV.fileT (x:ChV):x.cells.tail.take 33=x.file.cells:=by rw [←List.drop_one];exact x.file1
theorem ChV.tk1 (x:ChV):x.cells.take 1=[.int .i64 x.kind]:=by
 have h:x.cells=([.int .i64 x.kind])++x.cells.drop 1:=by rw [x.dr1];simp [ChV.cells]
 rw [h,List.take_append_of_le_length (by simp)];exact List.take_of_length_le (by simp)
@[simp] theorem ChV.fileU (x:ChV) (v:IdV):x.cells.take 1++(v.cells++x.cells.drop 34)=ChV.cells { x with file:=v }:=by rw [x.tk1,ChV.dr34];simp [ChV.cells]
@[simp] theorem ChV.type1 (x:ChV):x.cells[34]?=some (.int .i64 x.type):=by rw [←List.head?_drop,x.dr34];rfl
@[simp] theorem ChV.type2 (x:ChV) (h:34<x.cells.length):x.cells[34]=.int .i64 x.type:=getElem_of x.type1 h
theorem ChV.tk34 (x:ChV):x.cells.take 34=.int .i64 x.kind::(x.file.cells):=by
 have h:x.cells=(.int .i64 x.kind::(x.file.cells))++x.cells.drop 34:=by rw [x.dr34];simp [ChV.cells]
 rw [h,List.take_append_of_le_length (by simp)];exact List.take_of_length_le (by simp)
@[simp] theorem ChV.typeU (x:ChV) (v:Int):x.cells.take 34++(.int .i64 v::x.cells.drop 35)=ChV.cells { x with type:=v }:=by rw [x.tk34,ChV.dr35];simp [ChV.cells]
@[simp] theorem ChV.parent1 (x:ChV):(x.cells.drop 35).take 33=x.parent.cells:=by rw [x.dr35];rw [List.take_append_of_le_length (by simp)];exact List.take_of_length_le (by simp)
theorem ChV.tk35 (x:ChV):x.cells.take 35=.int .i64 x.kind::(x.file.cells++([.int .i64 x.type])):=by
 have h:x.cells=(.int .i64 x.kind::(x.file.cells++([.int .i64 x.type])))++x.cells.drop 35:=by rw [x.dr35];simp [ChV.cells]
 rw [h,List.take_append_of_le_length (by simp)];exact List.take_of_length_le (by simp)
@[simp] theorem ChV.parentU (x:ChV) (v:IdV):x.cells.take 35++(v.cells++x.cells.drop 68)=ChV.cells { x with parent:=v }:=by rw [x.tk35,ChV.dr68];simp [ChV.cells]
@[simp] theorem ChV.name1 (x:ChV):x.cells[68]?=some (.str x.name):=by rw [←List.head?_drop,x.dr68];rfl
@[simp] theorem ChV.name2 (x:ChV) (h:68<x.cells.length):x.cells[68]=.str x.name:=getElem_of x.name1 h
theorem ChV.tk68 (x:ChV):x.cells.take 68=.int .i64 x.kind::(x.file.cells++(.int .i64 x.type::(x.parent.cells))):=by
 have h:x.cells=(.int .i64 x.kind::(x.file.cells++(.int .i64 x.type::(x.parent.cells))))++x.cells.drop 68:=by rw [x.dr68];simp [ChV.cells]
 rw [h,List.take_append_of_le_length (by simp)];exact List.take_of_length_le (by simp)
@[simp] theorem ChV.nameU (x:ChV) (v:List UInt8):x.cells.take 68++(.str v::x.cells.drop 69)=ChV.cells { x with name:=v }:=by rw [x.tk68,ChV.dr69];simp [ChV.cells]
@[simp] theorem ChV.mode1 (x:ChV):x.cells[69]?=some (.int .i64 x.mode):=by rw [←List.head?_drop,x.dr69];rfl
@[simp] theorem ChV.mode2 (x:ChV) (h:69<x.cells.length):x.cells[69]=.int .i64 x.mode:=getElem_of x.mode1 h
theorem ChV.tk69 (x:ChV):x.cells.take 69=.int .i64 x.kind::(x.file.cells++(.int .i64 x.type::(x.parent.cells++([.str x.name])))):=by
 have h:x.cells=(.int .i64 x.kind::(x.file.cells++(.int .i64 x.type::(x.parent.cells++([.str x.name])))))++x.cells.drop 69:=by rw [x.dr69];simp [ChV.cells]
 rw [h,List.take_append_of_le_length (by simp)];exact List.take_of_length_le (by simp)
@[simp] theorem ChV.modeU (x:ChV) (v:Int):x.cells.take 69++(.int .i64 v::x.cells.drop 70)=ChV.cells { x with mode:=v }:=by rw [x.tk69,ChV.dr70];simp [ChV.cells]
@[simp] theorem ChV.data1 (x:ChV):x.cells[70]?=some (.str x.data):=by rw [←List.head?_drop,x.dr70];rfl
@[simp] theorem ChV.data2 (x:ChV) (h:70<x.cells.length):x.cells[70]=.str x.data:=getElem_of x.data1 h
theorem ChV.tk70 (x:ChV):x.cells.take 70=.int .i64 x.kind::(x.file.cells++(.int .i64 x.type::(x.parent.cells++(.str x.name::([.int .i64 x.mode]))))):=by
 have h:x.cells=(.int .i64 x.kind::(x.file.cells++(.int .i64 x.type::(x.parent.cells++(.str x.name::([.int .i64 x.mode]))))))++x.cells.drop 70:=by rw [x.dr70];simp [ChV.cells]
 rw [h,List.take_append_of_le_length (by simp)];exact List.take_of_length_le (by simp)
@[simp] theorem ChV.dataU (x:ChV) (v:List UInt8):x.cells.take 70++(.str v::x.cells.drop 71)=ChV.cells { x with data:=v }:=by rw [x.tk70,ChV.dr71];simp [ChV.cells]
@[simp] theorem ChV.after1 (x:ChV):(x.cells.drop 71).take 33=x.after.cells:=by rw [x.dr71];rw [List.take_append_of_le_length (by simp)];exact List.take_of_length_le (by simp)
theorem ChV.tk71 (x:ChV):x.cells.take 71=.int .i64 x.kind::(x.file.cells++(.int .i64 x.type::(x.parent.cells++(.str x.name::(.int .i64 x.mode::([.str x.data])))))):=by
 have h:x.cells=(.int .i64 x.kind::(x.file.cells++(.int .i64 x.type::(x.parent.cells++(.str x.name::(.int .i64 x.mode::([.str x.data])))))))++x.cells.drop 71:=by rw [x.dr71];simp [ChV.cells]
 rw [h,List.take_append_of_le_length (by simp)];exact List.take_of_length_le (by simp)
@[simp] theorem ChV.afterU (x:ChV) (v:IdV):x.cells.take 71++(v.cells++x.cells.drop 104)=ChV.cells { x with after:=v }:=by rw [x.tk71,ChV.dr104];simp [ChV.cells]
@[simp] theorem ChV.before1 (x:ChV):(x.cells.drop 104).take 33=x.before.cells:=by rw [x.dr104];rw [List.take_append_of_le_length (by simp)];exact List.take_of_length_le (by simp)
theorem ChV.tk104 (x:ChV):x.cells.take 104=.int .i64 x.kind::(x.file.cells++(.int .i64 x.type::(x.parent.cells++(.str x.name::(.int .i64 x.mode::(.str x.data::(x.after.cells))))))):=by
 have h:x.cells=(.int .i64 x.kind::(x.file.cells++(.int .i64 x.type::(x.parent.cells++(.str x.name::(.int .i64 x.mode::(.str x.data::(x.after.cells))))))))++x.cells.drop 104:=by rw [x.dr104];simp [ChV.cells]
 rw [h,List.take_append_of_le_length (by simp)];exact List.take_of_length_le (by simp)
@[simp] theorem ChV.beforeU (x:ChV) (v:IdV):x.cells.take 104++(v.cells++x.cells.drop 137)=ChV.cells { x with before:=v }:=by rw [x.tk104,ChV.dr137];simp [ChV.cells]
@[simp] theorem ChV.lines1 (x:ChV):x.cells[137]?=some (slAV x.linesK (x.lines.map strC)):=by rw [←List.head?_drop,x.dr137];rfl
@[simp] theorem ChV.lines2 (x:ChV) (h:137<x.cells.length):x.cells[137]=slAV x.linesK (x.lines.map strC):=getElem_of x.lines1 h
theorem ChV.tk137 (x:ChV):x.cells.take 137=.int .i64 x.kind::(x.file.cells++(.int .i64 x.type::(x.parent.cells++(.str x.name::(.int .i64 x.mode::(.str x.data::(x.after.cells++(x.before.cells)))))))):=by
 have h:x.cells=(.int .i64 x.kind::(x.file.cells++(.int .i64 x.type::(x.parent.cells++(.str x.name::(.int .i64 x.mode::(.str x.data::(x.after.cells++(x.before.cells)))))))))++x.cells.drop 137:=by rw [x.dr137];simp [ChV.cells]
 rw [h,List.take_append_of_le_length (by simp)];exact List.take_of_length_le (by simp)
@[simp] theorem ChV.linesU (x:ChV) (v:List (List UInt8)) (k:SK):x.cells.take 137++(slAV k (v.map strC)::x.cells.drop 138)=ChV.cells { x with lines:=v,linesK:=k }:=by rw [x.tk137,ChV.dr138];simp [ChV.cells]
@[simp] theorem ChV.linesN (x:ChV):x.cells.take 137++(.nils::x.cells.drop 138)=ChV.cells { x with lines:=[],linesK:=.nil }:=x.linesU [] .nil
@[simp] theorem ChV.over1 (x:ChV):x.cells[138]?=some (slAV x.overK (x.over.map IdV.cells)):=by rw [←List.head?_drop,x.dr138];rfl
@[simp] theorem ChV.over2 (x:ChV) (h:138<x.cells.length):x.cells[138]=slAV x.overK (x.over.map IdV.cells):=getElem_of x.over1 h
theorem ChV.tk138 (x:ChV):x.cells.take 138=.int .i64 x.kind::(x.file.cells++(.int .i64 x.type::(x.parent.cells++(.str x.name::(.int .i64 x.mode::(.str x.data::(x.after.cells++(x.before.cells++([slAV x.linesK (x.lines.map strC)]))))))))):=by
 have h:x.cells=(.int .i64 x.kind::(x.file.cells++(.int .i64 x.type::(x.parent.cells++(.str x.name::(.int .i64 x.mode::(.str x.data::(x.after.cells++(x.before.cells++([slAV x.linesK (x.lines.map strC)]))))))))))++x.cells.drop 138:=by rw [x.dr138];simp [ChV.cells]
 rw [h,List.take_append_of_le_length (by simp)];exact List.take_of_length_le (by simp)
@[simp] theorem ChV.overU (x:ChV) (v:List IdV) (k:SK):x.cells.take 138++[slAV k (v.map IdV.cells)]=ChV.cells { x with over:=v,overK:=k }:=by rw [x.tk138];simp [ChV.cells]
@[simp] theorem ChV.overN (x:ChV):x.cells.take 138++[.nils]=ChV.cells { x with over:=[],overK:=.nil }:=x.overU [] .nil
@[simp] theorem ChV.closed (x:ChV):AV.closeds x.cells=true:=by
 simp [ChV.cells,closeds_append,AV.closeds,AV.closed,slAV_closed (closedss_map strC_closed x.lines),slAV_closed (closedss_map IdV.closed x.over)]
structure PatchV where
 author:List UInt8
 message:List UInt8
 time:Int
 deps:List DigV
 depsK:SK
 changes:List ChV
 changesK:SK
def PatchV.cells (x:PatchV):List AV:=.str x.author::(.str x.message::(.int .i64 x.time::(slAV x.depsK (x.deps.map DigV.cells)::([slAV x.changesK (x.changes.map ChV.cells)]))))
@[simp] theorem PatchV.len (x:PatchV):x.cells.length=5:=by simp [PatchV.cells]
@[simp] theorem PatchV.leafs (x:PatchV):x.cells.all AV.leaf=true:=by simp only [PatchV.cells,List.all_append,List.all_cons,IdV.leafs,DigV.leafs,List.all_nil,slAV_leaf,leaf_int,leaf_str,leaf_bool,Bool.and_self,Bool.true_and,Bool.and_true]
@[simp] theorem PatchV.takeAll (x:PatchV):x.cells.take 5=x.cells:=List.take_of_length_le (by simp)
@[simp] theorem PatchV.dropAll (x:PatchV):x.cells.drop 5=[]:=List.drop_of_length_le (by simp)
theorem PatchV.dr0 (x:PatchV):x.cells.drop 0=.str x.author::(.str x.message::(.int .i64 x.time::(slAV x.depsK (x.deps.map DigV.cells)::([slAV x.changesK (x.changes.map ChV.cells)])))):=rfl
theorem PatchV.dr1 (x:PatchV):x.cells.drop 1=.str x.message::(.int .i64 x.time::(slAV x.depsK (x.deps.map DigV.cells)::([slAV x.changesK (x.changes.map ChV.cells)]))):=by rw [show 1=0+1 from rfl,←List.drop_drop,x.dr0];rfl
theorem PatchV.dr2 (x:PatchV):x.cells.drop 2=.int .i64 x.time::(slAV x.depsK (x.deps.map DigV.cells)::([slAV x.changesK (x.changes.map ChV.cells)])):=by rw [show 2=1+1 from rfl,←List.drop_drop,x.dr1];rfl
theorem PatchV.dr3 (x:PatchV):x.cells.drop 3=slAV x.depsK (x.deps.map DigV.cells)::([slAV x.changesK (x.changes.map ChV.cells)]):=by rw [show 3=2+1 from rfl,←List.drop_drop,x.dr2];rfl
theorem PatchV.dr4 (x:PatchV):x.cells.drop 4=[slAV x.changesK (x.changes.map ChV.cells)]:=by rw [show 4=3+1 from rfl,←List.drop_drop,x.dr3];rfl
@[simp] theorem PatchV.author3 (x:PatchV):x.cells.head?=some (.str x.author):=Eq.trans rfl rfl
@[simp] theorem PatchV.message1 (x:PatchV):x.cells[1]?=some (.str x.message):=by rw [←List.head?_drop,x.dr1];rfl
@[simp] theorem PatchV.message2 (x:PatchV) (h:1<x.cells.length):x.cells[1]=.str x.message:=getElem_of x.message1 h
@[simp] theorem PatchV.time1 (x:PatchV):x.cells[2]?=some (.int .i64 x.time):=by rw [←List.head?_drop,x.dr2];rfl
@[simp] theorem PatchV.time2 (x:PatchV) (h:2<x.cells.length):x.cells[2]=.int .i64 x.time:=getElem_of x.time1 h
@[simp] theorem PatchV.deps1 (x:PatchV):x.cells[3]?=some (slAV x.depsK (x.deps.map DigV.cells)):=by rw [←List.head?_drop,x.dr3];rfl
@[simp] theorem PatchV.deps2 (x:PatchV) (h:3<x.cells.length):x.cells[3]=slAV x.depsK (x.deps.map DigV.cells):=getElem_of x.deps1 h
@[simp] theorem PatchV.changes1 (x:PatchV):x.cells[4]?=some (slAV x.changesK (x.changes.map ChV.cells)):=by rw [←List.head?_drop,x.dr4];rfl
@[simp] theorem PatchV.changes2 (x:PatchV) (h:4<x.cells.length):x.cells[4]=slAV x.changesK (x.changes.map ChV.cells):=getElem_of x.changes1 h
@[simp] theorem PatchV.closed (x:PatchV):AV.closeds x.cells=true:=by
 simp [PatchV.cells,closeds_append,AV.closeds,AV.closed,slAV_closed (closedss_map DigV.closed x.deps),slAV_closed (closedss_map ChV.closed x.changes)]
structure StoredV where
 id:DigV
 patch:PatchV
def StoredV.cells (x:StoredV):List AV:=x.id.cells++(x.patch.cells)
@[simp] theorem StoredV.len (x:StoredV):x.cells.length=37:=by simp [StoredV.cells]
@[simp] theorem StoredV.leafs (x:StoredV):x.cells.all AV.leaf=true:=by simp only [StoredV.cells,List.all_append,List.all_cons,IdV.leafs,DigV.leafs,List.all_nil,slAV_leaf,leaf_int,leaf_str,leaf_bool,Bool.and_self,Bool.true_and,Bool.and_true,PatchV.leafs]
@[simp] theorem StoredV.takeAll (x:StoredV):x.cells.take 37=x.cells:=List.take_of_length_le (by simp)
theorem StoredV.dr0 (x:StoredV):x.cells.drop 0=x.id.cells++(x.patch.cells):=rfl
theorem StoredV.dr32 (x:StoredV):x.cells.drop 32=x.patch.cells:=by rw [show 32=0+32 from rfl,←List.drop_drop,x.dr0,drop_skip (n:=32) (by simp) (by decide)];rfl
theorem StoredV.id0 (x:StoredV):x.cells.take 32=x.id.cells:=by show (x.id.cells++(x.patch.cells)).take 32=_;rw [List.take_append_of_le_length (by simp)];exact List.take_of_length_le (by simp)
@[simp] theorem StoredV.id1 (x:StoredV):AV.agg (x.cells.take 32)=AV.agg (x.id.cells):=by rw [x.id0]
@[simp] theorem StoredV.patch1 (x:StoredV):x.cells.drop 32=x.patch.cells:=x.dr32
end Go.Proofs.Ev
namespace Go.Proofs.Ev
open Go.Proofs Go.ChangeShapes Go.WideShapes Go.ChangeAt Go.RowKit Go.Deep
open Go.Proofs.YtckbkhfaahpanaaGreatDoor (Rows.uptoBulk Rows.uptoBulkAll)
def phi0:Phi:=⟨fun _=>none,fun _=>False⟩
theorem live0 (cb:Nat):NotLive phi0 cb:=⟨fun b L h=>(by cases h),fun h=>h⟩
def Is (W:World) (avs:List AV) (cs:List Value):Prop:=cs.length=avs.length∧∀(j:Nat) (v:AV),avs[j]?=some v→v.leaf=true∧∃V,cs[j]?=some V∧RV phi0 0 W v V
section
variable {X:Type} {enc:TypeId×Value→X} {W:World} {d:DataW X} {p:List MemPlace} {cs:List Value} {fuel:Nat} {t:TypeId}
theorem Is.one {v:AV} {V:Value} (hl:v.leaf=true) (h:RV phi0 0 W v V):Is W [v] [V]:=⟨rfl,fun j x hj=>by
 cases j with
 | zero=>simp only [List.getElem?_cons_zero,Option.some.injEq] at hj;subst hj;exact ⟨hl,V,rfl,h⟩
 | succ j=>simp at hj⟩
theorem Is.append {a b:List AV} {cs ds:List Value} (h:Is W a cs) (k:Is W b ds):Is W (a++b) (cs++ds):=by
 refine ⟨by simp [h.1,k.1],fun j v hj=>?_⟩
 rcases Nat.lt_or_ge j a.length with hlt | hge
 ·rw [List.getElem?_append_left hlt] at hj
  rw [List.getElem?_append_left (by rw [h.1];exact hlt)]
  exact h.2 j v hj
 ·rw [List.getElem?_append_right hge] at hj
  rw [List.getElem?_append_right (by rw [h.1];exact hge),h.1]
  exact k.2 _ v hj
theorem Is.cut {a b:List AV} {n o m:Nat} (h:Is W a ((cs.drop o).take n)) (k:Is W b (cs.drop m)) (hm:m=o+n):Is W (a++b) (cs.drop o):=by
 have e:cs.drop o=(cs.drop o).take n++cs.drop m:=by rw [hm,←List.drop_drop,List.take_append_drop]
 rw [e];exact h.append k
theorem Is.nil {n:Nat} (h:cs.length=n):Is W [] (cs.drop n):=⟨by simp [h],fun j v hj=>by simp at hj⟩
def RdOf {α:Type} (W:World) (t:TypeId) (cells:α→List AV) (wt:α→Nat):Prop :=
 ∀(X:Type) (enc:TypeId×Value→X) (fuel:Nat) (cs:List Value) (d:DataW X) (p:List MemPlace),DataW.trod enc Tryz.prog W 0 (fun _=>true) true fuel t cs=some (d,p)→∃x:α,Is W (cells x) cs∧wt x≤Rows.uptoBulk d
theorem reads_int {k:IntKind} (ht:Tryz.prog.underlying t=some (.int k)):RdOf W t (fun n:Int=>[.int k n]) (fun _=>1):=by
 intro X enc fuel cs d p h
 obtain ⟨n,rfl,hx,_⟩:=DataW.trod_int ht h
 cases hx
 exact ⟨n,.one rfl (.int k n),Nat.le_refl _⟩
theorem reads_str (ht:Tryz.prog.underlying t=some .string):RdOf W t (fun l:List UInt8=>[.str l]) (fun l=>l.length+1):=by
 intro X enc fuel cs d p h
 obtain ⟨s,rfl,hx,_⟩:=DataW.trod_string ht h
 obtain ⟨⟨l⟩⟩:=s
 cases hx
 exact ⟨l,.one rfl (.str l),Nat.le_refl _⟩
theorem u8_wf {n:Int} (h:(Lit.int .u8 n).wf=true):0≤n∧n<256:=by
 simp [Lit.wf,IntKind.min,IntKind.max,IntKind.bits,IntKind.signed] at h
 omega
theorem reads_dig (hc:Tryz.prog.cellsOf t=32) (ht:Tryz.prog.underlying t=some (.array 32 5)):RdOf W t DigV.cells (fun _=>1):=by
 intro X enc fuel cs d p h
 obtain ⟨xs,m,rfl,hx,hl,hxl,hg⟩:=DataW.trod_array ht h
 cases hx
 have hc5:Tryz.prog.cellsOf 5=1:=by kernel_rfl
 rw [hc] at hl
 have key:∀j,j<32→∃n:Nat,n<256∧cs[j]?=some (.int .u8 (n:Int)):=by
  intro j hj
  have h1:=hg j hj
  rw [hc5,Nat.mul_one] at h1
  obtain ⟨x,hx⟩:∃x,xs[j]?=some x:=⟨xs[j]'(by omega),List.getElem?_eq_getElem _⟩
  rw [hx] at h1
  obtain ⟨n,hn,_,hw⟩:=DataW.trod_int Tryz.underlying5 h1
  have:=u8_wf hw
  refine ⟨n.toNat,by omega,?_⟩
  have e:((cs.drop j).take 1)[0]?=some (Value.int .u8 n):=by rw [hn];rfl
  rw [List.getElem?_take,if_pos (by omega),List.getElem?_drop,Nat.add_zero] at e
  rw [e,Int.toNat_of_nonneg this.1]
 obtain ⟨f,hf⟩:=choose_lt key
 refine ⟨⟨(List.range 32).map f,by simp,fun x hx=>?_⟩,?_,by simp [Rows.uptoBulk]⟩
 ·obtain ⟨i,hi,rfl⟩:=List.mem_map.1 hx
  exact (hf i (List.mem_range.1 hi)).1
 ·refine ⟨by simp [hl],fun j v hj=>?_⟩
  have hj32:j<32:=by have:=lt_of_get hj;simpa using this
  have e:v=.int .u8 (f j:Int):=by
   simp only [DigV.cells,Ev.dig,List.getElem?_map] at hj
   rw [List.getElem?_eq_getElem (by simpa using hj32)] at hj
   simpa using hj.symm
  subst e
  exact ⟨rfl,_,(hf j hj32).2,.int _ _⟩
theorem bulk_map {α:Type} (l:List α) (D:α→DataW X) (g:α→Nat) (h:∀i∈l,g i≤Rows.uptoBulk (D i)):(l.map g).sum≤Rows.uptoBulkAll (l.map D):=by
 induction l with
 | nil=>exact Nat.zero_le _
 | cons x r ih =>
  have h1:=h x (by simp)
  have h2:=ih (fun i hi=>h i (by simp [hi]))
  simp only [List.map_cons,List.sum_cons,Rows.uptoBulkAll]
  omega
theorem reads_slice {α:Type} {e n:Nat} {cells:α→List AV} {wt:α→Nat} (ht:Tryz.prog.underlying t=some (.slice e)) (hc:Tryz.prog.cellsOf e=n) (hn:0<n) (hlen:∀x,(cells x).length=n) (he:RdOf W e cells wt) :
 RdOf W t (fun l:List α=>[slAV .loose (l.map cells)]) (fun l=>(l.map wt).sum+1):=by
 intro X enc fuel cs d p h
 rcases open_slice ht h with ⟨rfl,hx⟩ | ⟨a,len,cap,m,nf,D,Pl,rfl,_,hl,hm,hmm,hx,hi⟩
 ·cases hx
  refine ⟨[],.one (by simp) ?_,by simp [Rows.uptoBulk]⟩
  exact .lst (fun _ _=>.bool false) 0 rfl (Nat.le_refl _) (fun h=>by cases h) (fun h=>absurd rfl h) (fun i row hi=>by simp at hi)
 ·cases hx
  simp only [if_true] at hmm
  have key:∀i,i<len→∃y:α×List Value,Is W (cells y.1) y.2∧wt y.1≤Rows.uptoBulk (D i)∧∀j,j<n→W.cell? ((a.add (i*n)).add j)=y.2[j]?:=by
   intro i hil
   obtain ⟨cs',h1,h2⟩:=hi i (by omega)
   rw [hc] at h1
   obtain ⟨_,h3,h4⟩:=World.cells?_some h1
   obtain ⟨x,g1,g2⟩:=he X enc _ _ _ _ h2
   exact ⟨(x,cs'),g1,g2,h4⟩
  by_cases hne:len=0
  ·subst hne
   refine ⟨[],.one (by simp) ?_,by simp [Rows.uptoBulk,Rows.uptoBulkAll]⟩
   exact .lst (fun _ _=>.bool false) 0 rfl (Nat.zero_le _) (fun h=>by cases h) (fun h=>absurd rfl h) (fun i row hi=>by simp at hi)
  have:Inhabited (α×List Value):=⟨(key 0 (by omega)).choose⟩
  obtain ⟨f,hf⟩:=choose_lt key
  refine ⟨(List.range len).map fun i=>(f i).1,.one (by simp) ?_,?_⟩
  ·refine .lst (fun i j=>((f i).2[j]?).getD (.bool false)) n (by simp) hl (fun h=>by cases h) (fun _=>?_) (fun i row hi j v hj=>?_)
   ·obtain ⟨b,off,spot⟩:=a
    have hspot:spot=none:=by
     obtain ⟨g1,_,g3⟩:=hf 0 (by omega)
     have h0:=g3 0 hn
     have hx:=g1.1
     rw [hlen] at hx
     rw [List.getElem?_eq_getElem (by omega)] at h0
     have:=World.cell?_spot h0
     simpa [Addr.add] using this
    subst hspot
    refine ⟨b,off,rfl,fun i row hi=>?_⟩
    obtain ⟨i',hi',rfl⟩:∃i',(List.range len)[i]?=some i'∧cells (f i').1=row:=by
     simp only [List.map_map,List.getElem?_map,Option.map_eq_some_iff] at hi
     obtain ⟨a1,a2,a3⟩:=hi
     exact ⟨a1,a2,a3⟩
    have hil:i<len:=by have:=lt_of_get hi';simpa using this
    obtain rfl:i'=i:=by rw [List.getElem?_eq_getElem (by simpa using hil)] at hi';simpa using hi'.symm
    obtain ⟨g1,_,g3⟩:=hf i' hil
    refine ⟨hlen _,fun j v hj=>?_⟩
    have hjn:j<n:=by have:=lt_of_get hj;rwa [hlen] at this
    obtain ⟨e1,V,e2,e3⟩:=g1.2 j v hj
    refine ⟨e1,live0 _,?_⟩
    have:=g3 j hjn
    have eadd:((⟨b,off,none⟩:Addr).add (i'*n)).add j=⟨b,off+i'*n+j,none⟩:=by
     unfold Addr.add
     by_cases h1:i'*n=0<;>by_cases h2:j=0<;>simp [h1,h2]
    rw [eadd,e2] at this
    rw [this,e2];rfl
   ·obtain ⟨i',hi',rfl⟩:∃i',(List.range len)[i]?=some i'∧cells (f i').1=row:=by
     simp only [List.map_map,List.getElem?_map,Option.map_eq_some_iff] at hi
     obtain ⟨a1,a2,a3⟩:=hi
     exact ⟨a1,a2,a3⟩
    have hil:i<len:=by have:=lt_of_get hi';simpa using this
    obtain rfl:i'=i:=by rw [List.getElem?_eq_getElem (by simpa using hil)] at hi';simpa using hi'.symm
    obtain ⟨e1,V,e2,e3⟩:=(hf i' hil).1.2 j v hj
    rw [e2];exact e3
  ·have h1:=bulk_map (List.range len) D (fun i=>wt (f i).1) (fun i hi=>(hf i (List.mem_range.1 hi)).2.1)
   simp only [Rows.uptoBulk,List.map_map,Function.comp_def] at h1 ⊢
   omega
end
end Go.Proofs.Ev
