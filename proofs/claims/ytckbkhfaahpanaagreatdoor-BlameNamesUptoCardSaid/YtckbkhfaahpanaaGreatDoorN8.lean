/- Part 8 of the proof that quiltlaw38.BlameNames returns true: no statement of its own. -/
import Derived.Test.YtckbkhfaahpanaaGreatDoorN7
import Derived.Test.YtckbkhfaahpanaaGreatDoorProg
import Derived.Test.YtckbkhfaahpanaaGreatDoorN6
set_option linter.all false
namespace Go.Proofs.Ev
open Go.Proofs
set_option maxRecDepth 100000
theorem in3:(Tryz.prog).info? 3=some Tryz.t3:=info_of Tryz.typeInfo3
@[simp] theorem sz3:szOf Tryz.prog 3=some 1:=sz_of in3 rfl
@[simp] theorem tg3:tagG Tryz.prog 3=0:=by kernel_rfl
@[simp] theorem cl3:clsG Tryz.prog 3 1=0:=by kernel_rfl
theorem in4:(Tryz.prog).info? 4=some Tryz.t4:=info_of Tryz.typeInfo4
@[simp] theorem sz4:szOf Tryz.prog 4=some 1:=sz_of in4 rfl
@[simp] theorem tg4:tagG Tryz.prog 4=0:=by kernel_rfl
@[simp] theorem cl4:clsG Tryz.prog 4 1=0:=by kernel_rfl
theorem in5:(Tryz.prog).info? 5=some Tryz.t5:=info_of Tryz.typeInfo5
@[simp] theorem sz5:szOf Tryz.prog 5=some 1:=sz_of in5 rfl
@[simp] theorem by5:bytesOf Tryz.prog 5=some 1:=by_of in5 rfl
@[simp] theorem tg5:tagG Tryz.prog 5=0:=by kernel_rfl
@[simp] theorem cl5:clsG Tryz.prog 5 1=2:=by kernel_rfl
theorem in9:(Tryz.prog).info? 9=some Tryz.t9:=info_of Tryz.typeInfo9
@[simp] theorem sz9:szOf Tryz.prog 9=some 1:=sz_of in9 rfl
@[simp] theorem tg9:tagG Tryz.prog 9=0:=by kernel_rfl
@[simp] theorem cl9:clsG Tryz.prog 9 1=0:=by kernel_rfl
theorem in23:(Tryz.prog).info? 23=some Tryz.t23:=info_of Tryz.typeInfo23
@[simp] theorem sz23:szOf Tryz.prog 23=some 1:=sz_of in23 rfl
@[simp] theorem tg23:tagG Tryz.prog 23=0:=by kernel_rfl
@[simp] theorem cl23:clsG Tryz.prog 23 1=0:=by kernel_rfl
theorem in25:(Tryz.prog).info? 25=some Tryz.t25:=info_of Tryz.typeInfo25
@[simp] theorem sz25:szOf Tryz.prog 25=some 32:=sz_of in25 rfl
@[simp] theorem by25:bytesOf Tryz.prog 25=some 32:=by_of in25 rfl
@[simp] theorem tg25:tagG Tryz.prog 25=0:=by kernel_rfl
theorem in27:(Tryz.prog).info? 27=some Tryz.t27:=info_of Tryz.typeInfo27
@[simp] theorem sz27:szOf Tryz.prog 27=some 33:=sz_of in27 rfl
@[simp] theorem by27:bytesOf Tryz.prog 27=some 40:=by_of in27 rfl
@[simp] theorem tg27:tagG Tryz.prog 27=0:=by kernel_rfl
theorem in34:(Tryz.prog).info? 34=some Tryz.t34:=info_of Tryz.typeInfo34
@[simp] theorem sz34:szOf Tryz.prog 34=some 1:=sz_of in34 rfl
@[simp] theorem tg34:tagG Tryz.prog 34=0:=by kernel_rfl
@[simp] theorem cl34:clsG Tryz.prog 34 1=0:=by kernel_rfl
theorem in36:(Tryz.prog).info? 36=some Tryz.t36:=info_of Tryz.typeInfo36
@[simp] theorem sz36:szOf Tryz.prog 36=some 172:=sz_of in36 rfl
@[simp] theorem by36:bytesOf Tryz.prog 36=some 296:=by_of in36 rfl
@[simp] theorem tg36:tagG Tryz.prog 36=0:=by kernel_rfl
theorem in45:(Tryz.prog).info? 45=some Tryz.t45:=info_of Tryz.typeInfo45
@[simp] theorem sz45:szOf Tryz.prog 45=some 1:=sz_of in45 rfl
@[simp] theorem tg45:tagG Tryz.prog 45=0:=by kernel_rfl
@[simp] theorem cl45:clsG Tryz.prog 45 1=0:=by kernel_rfl
theorem in47:(Tryz.prog).info? 47=some Tryz.t47:=info_of Tryz.typeInfo47
@[simp] theorem sz47:szOf Tryz.prog 47=some 36:=sz_of in47 rfl
@[simp] theorem by47:bytesOf Tryz.prog 47=some 80:=by_of in47 rfl
@[simp] theorem tg47:tagG Tryz.prog 47=0:=by kernel_rfl
theorem in51:(Tryz.prog).info? 51=some Tryz.t51:=info_of Tryz.typeInfo51
@[simp] theorem sz51:szOf Tryz.prog 51=some 67:=sz_of in51 rfl
@[simp] theorem by51:bytesOf Tryz.prog 51=some 96:=by_of in51 rfl
@[simp] theorem tg51:tagG Tryz.prog 51=0:=by kernel_rfl
theorem in55:(Tryz.prog).info? 55=some Tryz.t55:=info_of Tryz.typeInfo55
@[simp] theorem sz55:szOf Tryz.prog 55=some 1:=sz_of in55 rfl
@[simp] theorem tg55:tagG Tryz.prog 55=0:=by kernel_rfl
@[simp] theorem cl55:clsG Tryz.prog 55 1=0:=by kernel_rfl
theorem in57:(Tryz.prog).info? 57=some Tryz.t57:=info_of Tryz.typeInfo57
@[simp] theorem sz57:szOf Tryz.prog 57=some 139:=sz_of in57 rfl
@[simp] theorem tg57:tagG Tryz.prog 57=0:=by kernel_rfl
theorem in59:(Tryz.prog).info? 59=some Tryz.t59:=info_of Tryz.typeInfo59
@[simp] theorem sz59:szOf Tryz.prog 59=some 1:=sz_of in59 rfl
@[simp] theorem tg59:tagG Tryz.prog 59=0:=by kernel_rfl
@[simp] theorem cl59:clsG Tryz.prog 59 1=0:=by kernel_rfl
theorem in60:(Tryz.prog).info? 60=some Tryz.t60:=info_of Tryz.typeInfo60
@[simp] theorem sz60:szOf Tryz.prog 60=some 1:=sz_of in60 rfl
@[simp] theorem tg60:tagG Tryz.prog 60=0:=by kernel_rfl
@[simp] theorem cl60:clsG Tryz.prog 60 1=0:=by kernel_rfl
theorem in62:(Tryz.prog).info? 62=some Tryz.t62:=info_of Tryz.typeInfo62
@[simp] theorem sz62:szOf Tryz.prog 62=some 5:=sz_of in62 rfl
@[simp] theorem tg62:tagG Tryz.prog 62=0:=by kernel_rfl
theorem in83:(Tryz.prog).info? 83=some Tryz.t83:=info_of Tryz.typeInfo83
@[simp] theorem sz83:szOf Tryz.prog 83=some 1:=sz_of in83 rfl
@[simp] theorem tg83:tagG Tryz.prog 83=0:=by kernel_rfl
@[simp] theorem cl83:clsG Tryz.prog 83 1=0:=by kernel_rfl
theorem in87:(Tryz.prog).info? 87=some Tryz.t87:=info_of Tryz.typeInfo87
@[simp] theorem sz87:szOf Tryz.prog 87=some 1:=sz_of in87 rfl
theorem in88:(Tryz.prog).info? 88=some Tryz.t88:=info_of Tryz.typeInfo88
@[simp] theorem sz88:szOf Tryz.prog 88=some 1:=sz_of in88 rfl
@[simp] theorem tg88:tagG Tryz.prog 88=0:=by kernel_rfl
@[simp] theorem cl88:clsG Tryz.prog 88 1=0:=by kernel_rfl
theorem in90:(Tryz.prog).info? 90=some Tryz.t90:=info_of Tryz.typeInfo90
@[simp] theorem sz90:szOf Tryz.prog 90=some 1:=sz_of in90 rfl
@[simp] theorem tg90:tagG Tryz.prog 90=0:=by kernel_rfl
@[simp] theorem cl90:clsG Tryz.prog 90 1=0:=by kernel_rfl
theorem in91:(Tryz.prog).info? 91=some Tryz.t91:=info_of Tryz.typeInfo91
@[simp] theorem sz91:szOf Tryz.prog 91=some 1:=sz_of in91 rfl
@[simp] theorem tg91:tagG Tryz.prog 91=0:=by kernel_rfl
@[simp] theorem cl91:clsG Tryz.prog 91 1=0:=by kernel_rfl
theorem in92:(Tryz.prog).info? 92=some Tryz.t92:=info_of Tryz.typeInfo92
@[simp] theorem sz92:szOf Tryz.prog 92=some 1:=sz_of in92 rfl
@[simp] theorem tg92:tagG Tryz.prog 92=0:=by kernel_rfl
@[simp] theorem cl92:clsG Tryz.prog 92 1=0:=by kernel_rfl
theorem in93:(Tryz.prog).info? 93=some Tryz.t93:=info_of Tryz.typeInfo93
@[simp] theorem sz93:szOf Tryz.prog 93=some 1:=sz_of in93 rfl
@[simp] theorem tg93:tagG Tryz.prog 93=0:=by kernel_rfl
@[simp] theorem cl93:clsG Tryz.prog 93 1=0:=by kernel_rfl
theorem in95:(Tryz.prog).info? 95=some Tryz.t95:=info_of Tryz.typeInfo95
@[simp] theorem sz95:szOf Tryz.prog 95=some 7:=sz_of in95 rfl
@[simp] theorem tg95:tagG Tryz.prog 95=0:=by kernel_rfl
theorem in104:(Tryz.prog).info? 104=some Tryz.t104:=info_of Tryz.typeInfo104
@[simp] theorem sz104:szOf Tryz.prog 104=some 37:=sz_of in104 rfl
@[simp] theorem by104:bytesOf Tryz.prog 104=some 120:=by_of in104 rfl
@[simp] theorem tg104:tagG Tryz.prog 104=0:=by kernel_rfl
theorem in196:(Tryz.prog).info? 196=some Tryz.t196:=info_of Tryz.typeInfo196
@[simp] theorem sz196:szOf Tryz.prog 196=some 1:=sz_of in196 rfl
@[simp] theorem tg196:tagG Tryz.prog 196=0:=by kernel_rfl
@[simp] theorem cl196:clsG Tryz.prog 196 1=0:=by kernel_rfl
theorem in198:(Tryz.prog).info? 198=some Tryz.t198:=info_of Tryz.typeInfo198
@[simp] theorem sz198:szOf Tryz.prog 198=some 1:=sz_of in198 rfl
@[simp] theorem tg198:tagG Tryz.prog 198=0:=by kernel_rfl
@[simp] theorem cl198:clsG Tryz.prog 198 1=0:=by kernel_rfl
theorem in213:(Tryz.prog).info? 213=some Tryz.t213:=info_of Tryz.typeInfo213
@[simp] theorem sz213:szOf Tryz.prog 213=some 1:=sz_of in213 rfl
@[simp] theorem tg213:tagG Tryz.prog 213=0:=by kernel_rfl
@[simp] theorem cl213:clsG Tryz.prog 213 1=0:=by kernel_rfl
theorem in214:(Tryz.prog).info? 214=some Tryz.t214:=info_of Tryz.typeInfo214
@[simp] theorem sz214:szOf Tryz.prog 214=some 8:=sz_of in214 rfl
@[simp] theorem tg214:tagG Tryz.prog 214=0:=by kernel_rfl
theorem in227:(Tryz.prog).info? 227=some Tryz.t227:=info_of Tryz.typeInfo227
@[simp] theorem sz227:szOf Tryz.prog 227=some 1:=sz_of in227 rfl
@[simp] theorem tg227:tagG Tryz.prog 227=0:=by kernel_rfl
@[simp] theorem cl227:clsG Tryz.prog 227 1=0:=by kernel_rfl
theorem in230:(Tryz.prog).info? 230=some Tryz.t230:=info_of Tryz.typeInfo230
@[simp] theorem sz230:szOf Tryz.prog 230=some 1:=sz_of in230 rfl
@[simp] theorem tg230:tagG Tryz.prog 230=0:=by kernel_rfl
@[simp] theorem cl230:clsG Tryz.prog 230 1=0:=by kernel_rfl
theorem in233:(Tryz.prog).info? 233=some Tryz.t233:=info_of Tryz.typeInfo233
@[simp] theorem sz233:szOf Tryz.prog 233=some 34:=sz_of in233 rfl
@[simp] theorem by233:bytesOf Tryz.prog 233=some 48:=by_of in233 rfl
@[simp] theorem tg233:tagG Tryz.prog 233=0:=by kernel_rfl
theorem in267:(Tryz.prog).info? 267=some Tryz.t267:=info_of Tryz.typeInfo267
@[simp] theorem sz267:szOf Tryz.prog 267=some 1:=sz_of in267 rfl
@[simp] theorem tg267:tagG Tryz.prog 267=0:=by kernel_rfl
@[simp] theorem cl267:clsG Tryz.prog 267 1=0:=by kernel_rfl
theorem in269:(Tryz.prog).info? 269=some Tryz.t269:=info_of Tryz.typeInfo269
@[simp] theorem sz269:szOf Tryz.prog 269=some 3:=sz_of in269 rfl
@[simp] theorem by269:bytesOf Tryz.prog 269=some 48:=by_of in269 rfl
@[simp] theorem tg269:tagG Tryz.prog 269=0:=by kernel_rfl
theorem in277:(Tryz.prog).info? 277=some Tryz.t277:=info_of Tryz.typeInfo277
@[simp] theorem sz277:szOf Tryz.prog 277=some 64:=sz_of in277 rfl
@[simp] theorem tg277:tagG Tryz.prog 277=0:=by kernel_rfl
theorem in372:(Tryz.prog).info? 372=some Tryz.t372:=info_of Tryz.typeInfo372
@[simp] theorem sz372:szOf Tryz.prog 372=some 2:=sz_of in372 rfl
@[simp] theorem tg372:tagG Tryz.prog 372=1:=by kernel_rfl
theorem in407:(Tryz.prog).info? 407=some Tryz.t407:=info_of Tryz.typeInfo407
@[simp] theorem tg407:tagG Tryz.prog 407=0:=by kernel_rfl
@[simp] theorem ag3:isAggT Tryz.prog 3=some false:=ag_of Tryz.underlying3 rfl
@[simp] theorem ze3:ofZero Tryz.prog 3=some (.int .i64 0):=by rw [ofZero,in3];kernel_rfl
@[simp] theorem ag4:isAggT Tryz.prog 4=some false:=ag_of Tryz.underlying4 rfl
@[simp] theorem ze4:ofZero Tryz.prog 4=some (.bool false):=by rw [ofZero,in4];kernel_rfl
@[simp] theorem ag5:isAggT Tryz.prog 5=some false:=ag_of Tryz.underlying5 rfl
@[simp] theorem ze5:ofZero Tryz.prog 5=some (.int .u8 0):=by rw [ofZero,in5];kernel_rfl
@[simp] theorem ag9:isAggT Tryz.prog 9=some false:=ag_of Tryz.underlying9 rfl
@[simp] theorem le9 (H:Heap) (l:List UInt8):lenA Tryz.prog H 9 (.str l)=some (.int .i64 l.length):=len_str Tryz.underlying9 H l
@[simp] theorem ix9 (l:List UInt8) (ix:AV):indexA Tryz.prog 9 (.str l) ix=(idx ix l.length).bind fun i=>(l[i]?).map fun b=>.int .u8 b.toNat:=ix_str Tryz.underlying9 l ix
@[simp] theorem le22l (H:Heap) (r:List (List AV)) (x:Bool):lenA Tryz.prog H 22 (.lst r x)=some (.int .i64 r.length):=len_lst Tryz.underlying22 H r x
@[simp] theorem ag23:isAggT Tryz.prog 23=some false:=ag_of Tryz.underlying23 rfl
@[simp] theorem le23l (H:Heap) (r:List (List AV)) (x:Bool):lenA Tryz.prog H 23 (.lst r x)=some (.int .i64 r.length):=len_lst Tryz.underlying23 H r x
@[simp] theorem le23v (H:Heap) (k:SK) (r:List (List AV)):lenA Tryz.prog H 23 (slAV k r).denil=some (.int .i64 r.length):=len_slAV Tryz.underlying23 H k r
@[simp] theorem ia23v (k:SK) (r:List (List AV)) (ix:AV):indexAddrA Tryz.prog 23 (slAV k r) ix=(idx ix r.length).bind fun i=>(r[i]?).bind fun row=>if row.length=37 then some (.eptr row) else none:=ia_slAV Tryz.underlying23 sz104 k r ix
@[simp] theorem ag25:isAggT Tryz.prog 25=some true:=ag_of Tryz.underlying25 rfl
@[simp] theorem un25:Program.underlying Tryz.prog 25=some (.array 32 5):=Tryz.underlying25
@[simp] theorem ze25:ofZero Tryz.prog 25=some (.agg (dig digest0)):=by rw [ofZero,in25];kernel_rfl
@[simp] theorem ia25 (x ix:AV):indexAddrA Tryz.prog 25 x ix=(idx ix 32).bind fun i=>addOff x (i*1):=indexAddr_arr Tryz.underlying25 sz5 x ix
@[simp] theorem bu25 (ps:List (Nat×AV)):buildA Tryz.prog 25 ps=(fillA (fun i=>some (i*1,1)) (dig digest0) ps).map .agg:=bu_arr ze25 Tryz.underlying25 sz5 ps
@[simp] theorem ag27:isAggT Tryz.prog 27=some true:=ag_of Tryz.underlying27 rfl
@[simp] theorem ze27:ofZero Tryz.prog 27=some (.agg (zeroId.cells)):=by rw [ofZero,in27];kernel_rfl
@[simp] theorem fi27n0 (x:AV):fieldA Tryz.prog 27 x 0=addOff x 0:=fi_of (k:=0) (ft:=25) (off:=0) (n:=31) Tryz.underlying27 rfl rfl sz25 rfl x
@[simp] theorem fi27n1 (x:AV):fieldA Tryz.prog 27 x 1=addOff x 32:=fi_of (k:=1) (ft:=3) (off:=32) (n:=0) Tryz.underlying27 rfl rfl sz3 rfl x
@[simp] theorem bu27 (ps:List (Nat×AV)):buildA Tryz.prog 27 ps=(fillA (fun i=>([(0,32),(32,1)]:List (Nat×Nat))[i]?) (zeroId.cells) ps).map .agg:=bu_of [(0,32),(32,1)] ze27 Tryz.underlying27 (by simp) ps
@[simp] theorem ag34:isAggT Tryz.prog 34=some false:=ag_of Tryz.underlying34 rfl
@[simp] theorem ze34:ofZero Tryz.prog 34=some (.nils):=by rw [ofZero,in34];kernel_rfl
@[simp] theorem le34l (H:Heap) (r:List (List AV)) (x:Bool):lenA Tryz.prog H 34 (.lst r x)=some (.int .i64 r.length):=len_lst Tryz.underlying34 H r x
@[simp] theorem le34v (H:Heap) (k:SK) (r:List (List AV)):lenA Tryz.prog H 34 (slAV k r).denil=some (.int .i64 r.length):=len_slAV Tryz.underlying34 H k r
@[simp] theorem le34s (H:Heap) (b g s l n:Nat):lenA Tryz.prog H 34 (.sl b g s l n)=some (.int .i64 n):=len_sl Tryz.underlying34 H b g s l n
@[simp] theorem ia34l (r:List (List AV)) (x:Bool) (ix:AV):indexAddrA Tryz.prog 34 (.lst r x) ix=(idx ix r.length).bind fun i=>(r[i]?).bind fun row=>if row.length=33 then some (.eptr row) else none:=ia_lst Tryz.underlying34 sz27 r x ix
@[simp] theorem ia34v (k:SK) (r:List (List AV)) (ix:AV):indexAddrA Tryz.prog 34 (slAV k r) ix=(idx ix r.length).bind fun i=>(r[i]?).bind fun row=>if row.length=33 then some (.eptr row) else none:=ia_slAV Tryz.underlying34 sz27 k r ix
@[simp] theorem ag36:isAggT Tryz.prog 36=some true:=ag_of Tryz.underlying36 rfl
@[simp] theorem ze36:ofZero Tryz.prog 36=some (.agg (zeroId.cells++[.int .i64 0]++zeroId.cells++[.int .i64 0]++zeroId.cells++[.str [],.int .i64 0,.str [],.str []]++zeroId.cells++zeroId.cells++[.nils])):=by rw [ofZero,in36];kernel_rfl
@[simp] theorem fi36n0 (x:AV):fieldA Tryz.prog 36 x 0=addOff x 0:=fi_of (k:=0) (ft:=27) (off:=0) (n:=32) Tryz.underlying36 rfl rfl sz27 rfl x
@[simp] theorem fi36n1 (x:AV):fieldA Tryz.prog 36 x 1=addOff x 33:=fi_of (k:=1) (ft:=3) (off:=33) (n:=0) Tryz.underlying36 rfl rfl sz3 rfl x
@[simp] theorem fi36n2 (x:AV):fieldA Tryz.prog 36 x 2=addOff x 34:=fi_of (k:=2) (ft:=27) (off:=34) (n:=32) Tryz.underlying36 rfl rfl sz27 rfl x
@[simp] theorem fi36n3 (x:AV):fieldA Tryz.prog 36 x 3=addOff x 67:=fi_of (k:=3) (ft:=3) (off:=67) (n:=0) Tryz.underlying36 rfl rfl sz3 rfl x
@[simp] theorem fi36n4 (x:AV):fieldA Tryz.prog 36 x 4=addOff x 68:=fi_of (k:=4) (ft:=27) (off:=68) (n:=32) Tryz.underlying36 rfl rfl sz27 rfl x
@[simp] theorem fi36n5 (x:AV):fieldA Tryz.prog 36 x 5=addOff x 101:=fi_of (k:=5) (ft:=9) (off:=101) (n:=0) Tryz.underlying36 rfl rfl sz9 rfl x
@[simp] theorem fi36n9 (x:AV):fieldA Tryz.prog 36 x 9=addOff x 105:=fi_of (k:=9) (ft:=27) (off:=105) (n:=32) Tryz.underlying36 rfl rfl sz27 rfl x
@[simp] theorem fi36n10 (x:AV):fieldA Tryz.prog 36 x 10=addOff x 138:=fi_of (k:=10) (ft:=27) (off:=138) (n:=32) Tryz.underlying36 rfl rfl sz27 rfl x
@[simp] theorem fi36n11 (x:AV):fieldA Tryz.prog 36 x 11=addOff x 171:=fi_of (k:=11) (ft:=34) (off:=171) (n:=0) Tryz.underlying36 rfl rfl sz34 rfl x
@[simp] theorem bu36 (ps:List (Nat×AV)):buildA Tryz.prog 36 ps=(fillA (fun i=>([(0,33),(33,1),(34,33),(67,1),(68,33),(101,1),(102,1),(103,1),(104,1),(105,33),(138,33),(171,1)]:List (Nat×Nat))[i]?) (zeroId.cells++[.int .i64 0]++zeroId.cells++[.int .i64 0]++zeroId.cells++[.str [],.int .i64 0,.str [],.str []]++zeroId.cells++zeroId.cells++[.nils]) ps).map .agg:=bu_of [(0,33),(33,1),(34,33),(67,1),(68,33),(101,1),(102,1),(103,1),(104,1),(105,33),(138,33),(171,1)] ze36 Tryz.underlying36 (by simp) ps
@[simp] theorem le43v (H:Heap) (k:SK) (r:List (List AV)):lenA Tryz.prog H 43 (slAV k r).denil=some (.int .i64 r.length):=len_slAV Tryz.underlying43 H k r
@[simp] theorem ia43v (k:SK) (r:List (List AV)) (ix:AV):indexAddrA Tryz.prog 43 (slAV k r) ix=(idx ix r.length).bind fun i=>(r[i]?).bind fun row=>if row.length=36 then some (.eptr row) else none:=ia_slAV Tryz.underlying43 sz47 k r ix
@[simp] theorem ag45:isAggT Tryz.prog 45=some false:=ag_of Tryz.underlying45 rfl
@[simp] theorem ze45:ofZero Tryz.prog 45=some (.nils):=by rw [ofZero,in45];kernel_rfl
@[simp] theorem le45v (H:Heap) (k:SK) (r:List (List AV)):lenA Tryz.prog H 45 (slAV k r).denil=some (.int .i64 r.length):=len_slAV Tryz.underlying45 H k r
@[simp] theorem ia45v (k:SK) (r:List (List AV)) (ix:AV):indexAddrA Tryz.prog 45 (slAV k r) ix=(idx ix r.length).bind fun i=>(r[i]?).bind fun row=>if row.length=67 then some (.eptr row) else none:=ia_slAV Tryz.underlying45 sz51 k r ix
@[simp] theorem ag47:isAggT Tryz.prog 47=some true:=ag_of Tryz.underlying47 rfl
@[simp] theorem ze47:ofZero Tryz.prog 47=some (.agg (zeroId.cells++[.int .i64 0,.bool false,.nils])):=by rw [ofZero,in47];kernel_rfl
@[simp] theorem fi47n0 (x:AV):fieldA Tryz.prog 47 x 0=addOff x 0:=fi_of (k:=0) (ft:=27) (off:=0) (n:=32) Tryz.underlying47 rfl rfl sz27 rfl x
@[simp] theorem fi47n3 (x:AV):fieldA Tryz.prog 47 x 3=addOff x 35:=fi_of (k:=3) (ft:=45) (off:=35) (n:=0) Tryz.underlying47 rfl rfl sz45 rfl x
@[simp] theorem bu47 (ps:List (Nat×AV)):buildA Tryz.prog 47 ps=(fillA (fun i=>([(0,33),(33,1),(34,1),(35,1)]:List (Nat×Nat))[i]?) (zeroId.cells++[.int .i64 0,.bool false,.nils]) ps).map .agg:=bu_of [(0,33),(33,1),(34,1),(35,1)] ze47 Tryz.underlying47 (by simp) ps
@[simp] theorem ag51:isAggT Tryz.prog 51=some true:=ag_of Tryz.underlying51 rfl
@[simp] theorem ze51:ofZero Tryz.prog 51=some (.agg (zeroId.cells++zeroId.cells++[.str []])):=by rw [ofZero,in51];kernel_rfl
@[simp] theorem bu51 (ps:List (Nat×AV)):buildA Tryz.prog 51 ps=(fillA (fun i=>([(0,33),(33,33),(66,1)]:List (Nat×Nat))[i]?) (zeroId.cells++zeroId.cells++[.str []]) ps).map .agg:=bu_of [(0,33),(33,33),(66,1)] ze51 Tryz.underlying51 (by simp) ps
@[simp] theorem ag55:isAggT Tryz.prog 55=some false:=ag_of Tryz.underlying55 rfl
@[simp] theorem le55v (H:Heap) (k:SK) (r:List (List AV)):lenA Tryz.prog H 55 (slAV k r).denil=some (.int .i64 r.length):=len_slAV Tryz.underlying55 H k r
@[simp] theorem ia55v (k:SK) (r:List (List AV)) (ix:AV):indexAddrA Tryz.prog 55 (slAV k r) ix=(idx ix r.length).bind fun i=>(r[i]?).bind fun row=>if row.length=1 then some (.eptr row) else none:=ia_slAV Tryz.underlying55 sz9 k r ix
@[simp] theorem ag57:isAggT Tryz.prog 57=some true:=ag_of Tryz.underlying57 rfl
@[simp] theorem ze57:ofZero Tryz.prog 57=some (.agg ([.int .i64 0]++zeroId.cells++[.int .i64 0]++zeroId.cells++[.str [],.int .i64 0,.str []]++zeroId.cells++zeroId.cells++[.nils,.nils])):=by rw [ofZero,in57];kernel_rfl
@[simp] theorem fi57n0 (x:AV):fieldA Tryz.prog 57 x 0=addOff x 0:=fi_of (k:=0) (ft:=3) (off:=0) (n:=0) Tryz.underlying57 rfl rfl sz3 rfl x
@[simp] theorem fi57n1 (x:AV):fieldA Tryz.prog 57 x 1=addOff x 1:=fi_of (k:=1) (ft:=27) (off:=1) (n:=32) Tryz.underlying57 rfl rfl sz27 rfl x
@[simp] theorem fi57n2 (x:AV):fieldA Tryz.prog 57 x 2=addOff x 34:=fi_of (k:=2) (ft:=3) (off:=34) (n:=0) Tryz.underlying57 rfl rfl sz3 rfl x
@[simp] theorem fi57n3 (x:AV):fieldA Tryz.prog 57 x 3=addOff x 35:=fi_of (k:=3) (ft:=27) (off:=35) (n:=32) Tryz.underlying57 rfl rfl sz27 rfl x
@[simp] theorem fi57n4 (x:AV):fieldA Tryz.prog 57 x 4=addOff x 68:=fi_of (k:=4) (ft:=9) (off:=68) (n:=0) Tryz.underlying57 rfl rfl sz9 rfl x
@[simp] theorem fi57n5 (x:AV):fieldA Tryz.prog 57 x 5=addOff x 69:=fi_of (k:=5) (ft:=3) (off:=69) (n:=0) Tryz.underlying57 rfl rfl sz3 rfl x
@[simp] theorem fi57n6 (x:AV):fieldA Tryz.prog 57 x 6=addOff x 70:=fi_of (k:=6) (ft:=9) (off:=70) (n:=0) Tryz.underlying57 rfl rfl sz9 rfl x
@[simp] theorem fi57n7 (x:AV):fieldA Tryz.prog 57 x 7=addOff x 71:=fi_of (k:=7) (ft:=27) (off:=71) (n:=32) Tryz.underlying57 rfl rfl sz27 rfl x
@[simp] theorem fi57n8 (x:AV):fieldA Tryz.prog 57 x 8=addOff x 104:=fi_of (k:=8) (ft:=27) (off:=104) (n:=32) Tryz.underlying57 rfl rfl sz27 rfl x
@[simp] theorem fi57n9 (x:AV):fieldA Tryz.prog 57 x 9=addOff x 137:=fi_of (k:=9) (ft:=55) (off:=137) (n:=0) Tryz.underlying57 rfl rfl sz55 rfl x
@[simp] theorem fi57n10 (x:AV):fieldA Tryz.prog 57 x 10=addOff x 138:=fi_of (k:=10) (ft:=34) (off:=138) (n:=0) Tryz.underlying57 rfl rfl sz34 rfl x
@[simp] theorem ag59:isAggT Tryz.prog 59=some false:=ag_of Tryz.underlying59 rfl
@[simp] theorem le59v (H:Heap) (k:SK) (r:List (List AV)):lenA Tryz.prog H 59 (slAV k r).denil=some (.int .i64 r.length):=len_slAV Tryz.underlying59 H k r
@[simp] theorem ia59v (k:SK) (r:List (List AV)) (ix:AV):indexAddrA Tryz.prog 59 (slAV k r) ix=(idx ix r.length).bind fun i=>(r[i]?).bind fun row=>if row.length=139 then some (.eptr row) else none:=ia_slAV Tryz.underlying59 sz57 k r ix
@[simp] theorem ag60:isAggT Tryz.prog 60=some false:=ag_of Tryz.underlying60 rfl
@[simp] theorem ze60:ofZero Tryz.prog 60=some (.nils):=by rw [ofZero,in60];kernel_rfl
@[simp] theorem le60l (H:Heap) (r:List (List AV)) (x:Bool):lenA Tryz.prog H 60 (.lst r x)=some (.int .i64 r.length):=len_lst Tryz.underlying60 H r x
@[simp] theorem le60v (H:Heap) (k:SK) (r:List (List AV)):lenA Tryz.prog H 60 (slAV k r).denil=some (.int .i64 r.length):=len_slAV Tryz.underlying60 H k r
@[simp] theorem le60s (H:Heap) (b g s l n:Nat):lenA Tryz.prog H 60 (.sl b g s l n)=some (.int .i64 n):=len_sl Tryz.underlying60 H b g s l n
@[simp] theorem ia60v (k:SK) (r:List (List AV)) (ix:AV):indexAddrA Tryz.prog 60 (slAV k r) ix=(idx ix r.length).bind fun i=>(r[i]?).bind fun row=>if row.length=32 then some (.eptr row) else none:=ia_slAV Tryz.underlying60 sz25 k r ix
@[simp] theorem ia60s (b g s l m:Nat) (ix:AV):indexAddrA Tryz.prog 60 (.sl b g s l m) ix=if 32=s then (idx ix m).map fun i=>.ptr b g s (l+i) 0 else none:=ia_sl Tryz.underlying60 sz25 b g s l m ix
@[simp] theorem ag62:isAggT Tryz.prog 62=some true:=ag_of Tryz.underlying62 rfl
@[simp] theorem ze62:ofZero Tryz.prog 62=some (.agg ([.str [],.str [],.int .i64 0,.nils,.nils])):=by rw [ofZero,in62];kernel_rfl
@[simp] theorem fi62n0 (x:AV):fieldA Tryz.prog 62 x 0=addOff x 0:=fi_of (k:=0) (ft:=9) (off:=0) (n:=0) Tryz.underlying62 rfl rfl sz9 rfl x
@[simp] theorem fi62n1 (x:AV):fieldA Tryz.prog 62 x 1=addOff x 1:=fi_of (k:=1) (ft:=9) (off:=1) (n:=0) Tryz.underlying62 rfl rfl sz9 rfl x
@[simp] theorem fi62n2 (x:AV):fieldA Tryz.prog 62 x 2=addOff x 2:=fi_of (k:=2) (ft:=3) (off:=2) (n:=0) Tryz.underlying62 rfl rfl sz3 rfl x
@[simp] theorem fi62n3 (x:AV):fieldA Tryz.prog 62 x 3=addOff x 3:=fi_of (k:=3) (ft:=60) (off:=3) (n:=0) Tryz.underlying62 rfl rfl sz60 rfl x
@[simp] theorem fi62n4 (x:AV):fieldA Tryz.prog 62 x 4=addOff x 4:=fi_of (k:=4) (ft:=59) (off:=4) (n:=0) Tryz.underlying62 rfl rfl sz59 rfl x
@[simp] theorem bu62 (ps:List (Nat×AV)):buildA Tryz.prog 62 ps=(fillA (fun i=>([(0,1),(1,1),(2,1),(3,1),(4,1)]:List (Nat×Nat))[i]?) ([.str [],.str [],.int .i64 0,.nils,.nils]) ps).map .agg:=bu_of [(0,1),(1,1),(2,1),(3,1),(4,1)] ze62 Tryz.underlying62 (by simp) ps
@[simp] theorem ag83:isAggT Tryz.prog 83=some false:=ag_of Tryz.underlying83 rfl
@[simp] theorem ze83:ofZero Tryz.prog 83=some (.nils):=by rw [ofZero,in83];kernel_rfl
@[simp] theorem le83l (H:Heap) (r:List (List AV)) (x:Bool):lenA Tryz.prog H 83 (.lst r x)=some (.int .i64 r.length):=len_lst Tryz.underlying83 H r x
@[simp] theorem le83v (H:Heap) (k:SK) (r:List (List AV)):lenA Tryz.prog H 83 (slAV k r).denil=some (.int .i64 r.length):=len_slAV Tryz.underlying83 H k r
@[simp] theorem le83s (H:Heap) (b g s l n:Nat):lenA Tryz.prog H 83 (.sl b g s l n)=some (.int .i64 n):=len_sl Tryz.underlying83 H b g s l n
@[simp] theorem ia83l (r:List (List AV)) (x:Bool) (ix:AV):indexAddrA Tryz.prog 83 (.lst r x) ix=(idx ix r.length).bind fun i=>(r[i]?).bind fun row=>if row.length=172 then some (.eptr row) else none:=ia_lst Tryz.underlying83 sz36 r x ix
@[simp] theorem ia83v (k:SK) (r:List (List AV)) (ix:AV):indexAddrA Tryz.prog 83 (slAV k r) ix=(idx ix r.length).bind fun i=>(r[i]?).bind fun row=>if row.length=172 then some (.eptr row) else none:=ia_slAV Tryz.underlying83 sz36 k r ix
@[simp] theorem ia83s (b g s l m:Nat) (ix:AV):indexAddrA Tryz.prog 83 (.sl b g s l m) ix=if 172=s then (idx ix m).map fun i=>.ptr b g s (l+i) 0 else none:=ia_sl Tryz.underlying83 sz36 b g s l m ix
@[simp] theorem ag88:isAggT Tryz.prog 88=some false:=ag_of Tryz.underlying88 rfl
@[simp] theorem un88:Program.underlying Tryz.prog 88=some (.map 27 34):=Tryz.underlying88
@[simp] theorem ze88:ofZero Tryz.prog 88=some (.nilm):=by rw [ofZero,in88];kernel_rfl
@[simp] theorem ag90:isAggT Tryz.prog 90=some false:=ag_of Tryz.underlying90 rfl
@[simp] theorem un90:Program.underlying Tryz.prog 90=some (.map 27 4):=Tryz.underlying90
@[simp] theorem ze90:ofZero Tryz.prog 90=some (.nilm):=by rw [ofZero,in90];kernel_rfl
@[simp] theorem ag91:isAggT Tryz.prog 91=some false:=ag_of Tryz.underlying91 rfl
@[simp] theorem un91:Program.underlying Tryz.prog 91=some (.map 27 83):=Tryz.underlying91
@[simp] theorem ag95:isAggT Tryz.prog 95=some true:=ag_of Tryz.underlying95 rfl
@[simp] theorem ze95:ofZero Tryz.prog 95=some (.agg ([.nils,.nils,.nilm,.nils,.nilm,.nilm,.nilm])):=by rw [ofZero,in95];kernel_rfl
@[simp] theorem fi95n1 (x:AV):fieldA Tryz.prog 95 x 1=addOff x 1:=fi_of (k:=1) (ft:=83) (off:=1) (n:=0) Tryz.underlying95 rfl rfl sz83 rfl x
@[simp] theorem fi95n2 (x:AV):fieldA Tryz.prog 95 x 2=addOff x 2:=fi_of (k:=2) (ft:=90) (off:=2) (n:=0) Tryz.underlying95 rfl rfl sz90 rfl x
@[simp] theorem fi95n3 (x:AV):fieldA Tryz.prog 95 x 3=addOff x 3:=fi_of (k:=3) (ft:=83) (off:=3) (n:=0) Tryz.underlying95 rfl rfl sz83 rfl x
@[simp] theorem fi95n4 (x:AV):fieldA Tryz.prog 95 x 4=addOff x 4:=fi_of (k:=4) (ft:=91) (off:=4) (n:=0) Tryz.underlying95 rfl rfl sz91 rfl x
@[simp] theorem bu95 (ps:List (Nat×AV)):buildA Tryz.prog 95 ps=(fillA (fun i=>([(0,1),(1,1),(2,1),(3,1),(4,1),(5,1),(6,1)]:List (Nat×Nat))[i]?) ([.nils,.nils,.nilm,.nils,.nilm,.nilm,.nilm]) ps).map .agg:=bu_of [(0,1),(1,1),(2,1),(3,1),(4,1),(5,1),(6,1)] ze95 Tryz.underlying95 (by simp) ps
@[simp] theorem ag104:isAggT Tryz.prog 104=some true:=ag_of Tryz.underlying104 rfl
@[simp] theorem ze104:ofZero Tryz.prog 104=some (.agg (dig digest0++[.str [],.str [],.int .i64 0,.nils,.nils])):=by rw [ofZero,in104];kernel_rfl
@[simp] theorem fi104n0 (x:AV):fieldA Tryz.prog 104 x 0=addOff x 0:=fi_of (k:=0) (ft:=25) (off:=0) (n:=31) Tryz.underlying104 rfl rfl sz25 rfl x
@[simp] theorem fi104n1 (x:AV):fieldA Tryz.prog 104 x 1=addOff x 32:=fi_of (k:=1) (ft:=62) (off:=32) (n:=4) Tryz.underlying104 rfl rfl sz62 rfl x
@[simp] theorem le128v (H:Heap) (k:SK) (r:List (List AV)):lenA Tryz.prog H 128 (slAV k r).denil=some (.int .i64 r.length):=len_slAV Tryz.underlying128 H k r
@[simp] theorem ia128v (k:SK) (r:List (List AV)) (ix:AV):indexAddrA Tryz.prog 128 (slAV k r) ix=(idx ix r.length).bind fun i=>(r[i]?).bind fun row=>if row.length=1 then some (.eptr row) else none:=ia_slAV Tryz.underlying128 sz3 k r ix
@[simp] theorem ag196:isAggT Tryz.prog 196=some false:=ag_of Tryz.underlying196 rfl
@[simp] theorem un196:Program.underlying Tryz.prog 196=some (.map 25 60):=Tryz.underlying196
@[simp] theorem ze196:ofZero Tryz.prog 196=some (.nilm):=by rw [ofZero,in196];kernel_rfl
@[simp] theorem ag198:isAggT Tryz.prog 198=some false:=ag_of Tryz.underlying198 rfl
@[simp] theorem un198:Program.underlying Tryz.prog 198=some (.map 25 4):=Tryz.underlying198
@[simp] theorem ze198:ofZero Tryz.prog 198=some (.nilm):=by rw [ofZero,in198];kernel_rfl
@[simp] theorem ag213:isAggT Tryz.prog 213=some false:=ag_of Tryz.underlying213 rfl
@[simp] theorem ag214:isAggT Tryz.prog 214=some true:=ag_of Tryz.underlying214 rfl
@[simp] theorem ze214:ofZero Tryz.prog 214=some (.agg (List.replicate 8 (.int .u32 0))):=by rw [ofZero,in214];kernel_rfl
@[simp] theorem ia214 (x ix:AV):indexAddrA Tryz.prog 214 x ix=(idx ix 8).bind fun i=>addOff x (i*1):=indexAddr_arr Tryz.underlying214 sz213 x ix
@[simp] theorem bu214 (ps:List (Nat×AV)):buildA Tryz.prog 214 ps=(fillA (fun i=>some (i*1,1)) (List.replicate 8 (.int .u32 0)) ps).map .agg:=bu_arr ze214 Tryz.underlying214 sz213 ps
@[simp] theorem ag227:isAggT Tryz.prog 227=some false:=ag_of Tryz.underlying227 rfl
@[simp] theorem le227s (H:Heap) (b g s l n:Nat):lenA Tryz.prog H 227 (.sl b g s l n)=some (.int .i64 n):=len_sl Tryz.underlying227 H b g s l n
@[simp] theorem ia227s (b g s l m:Nat) (ix:AV):indexAddrA Tryz.prog 227 (.sl b g s l m) ix=if 1=s then (idx ix m).map fun i=>.ptr b g s (l+i) 0 else none:=ia_sl Tryz.underlying227 sz5 b g s l m ix
@[simp] theorem ag230:isAggT Tryz.prog 230=some false:=ag_of Tryz.underlying230 rfl
@[simp] theorem ze230:ofZero Tryz.prog 230=some (.nils):=by rw [ofZero,in230];kernel_rfl
@[simp] theorem ag233:isAggT Tryz.prog 233=some true:=ag_of Tryz.underlying233 rfl
@[simp] theorem ze233:ofZero Tryz.prog 233=some (.agg (zeroId.cells++[.nilf])):=by rw [ofZero,in233];kernel_rfl
@[simp] theorem fi233n0 (x:AV):fieldA Tryz.prog 233 x 0=addOff x 0:=fi_of (k:=0) (ft:=27) (off:=0) (n:=32) Tryz.underlying233 rfl rfl sz27 rfl x
@[simp] theorem fi233n1 (x:AV):fieldA Tryz.prog 233 x 1=addOff x 33:=fi_of (k:=1) (ft:=87) (off:=33) (n:=0) Tryz.underlying233 rfl rfl sz87 rfl x
@[simp] theorem bu233 (ps:List (Nat×AV)):buildA Tryz.prog 233 ps=(fillA (fun i=>([(0,33),(33,1)]:List (Nat×Nat))[i]?) (zeroId.cells++[.nilf]) ps).map .agg:=bu_of [(0,33),(33,1)] ze233 Tryz.underlying233 (by simp) ps
@[simp] theorem ag267:isAggT Tryz.prog 267=some false:=ag_of Tryz.underlying267 rfl
@[simp] theorem le267v (H:Heap) (k:SK) (r:List (List AV)):lenA Tryz.prog H 267 (slAV k r).denil=some (.int .i64 r.length):=len_slAV Tryz.underlying267 H k r
@[simp] theorem ia267v (k:SK) (r:List (List AV)) (ix:AV):indexAddrA Tryz.prog 267 (slAV k r) ix=(idx ix r.length).bind fun i=>(r[i]?).bind fun row=>if row.length=3 then some (.eptr row) else none:=ia_slAV Tryz.underlying267 sz269 k r ix
@[simp] theorem ag269:isAggT Tryz.prog 269=some true:=ag_of Tryz.underlying269 rfl
@[simp] theorem ze269:ofZero Tryz.prog 269=some (.agg ([.bool false,.str [],.nils])):=by rw [ofZero,in269];kernel_rfl
@[simp] theorem fi269n0 (x:AV):fieldA Tryz.prog 269 x 0=addOff x 0:=fi_of (k:=0) (ft:=4) (off:=0) (n:=0) Tryz.underlying269 rfl rfl sz4 rfl x
@[simp] theorem fi269n1 (x:AV):fieldA Tryz.prog 269 x 1=addOff x 1:=fi_of (k:=1) (ft:=9) (off:=1) (n:=0) Tryz.underlying269 rfl rfl sz9 rfl x
@[simp] theorem fi269n2 (x:AV):fieldA Tryz.prog 269 x 2=addOff x 2:=fi_of (k:=2) (ft:=267) (off:=2) (n:=0) Tryz.underlying269 rfl rfl sz267 rfl x
@[simp] theorem bu269 (ps:List (Nat×AV)):buildA Tryz.prog 269 ps=(fillA (fun i=>([(0,1),(1,1),(2,1)]:List (Nat×Nat))[i]?) ([.bool false,.str [],.nils]) ps).map .agg:=bu_of [(0,1),(1,1),(2,1)] ze269 Tryz.underlying269 (by simp) ps
@[simp] theorem ag277:isAggT Tryz.prog 277=some true:=ag_of Tryz.underlying277 rfl
@[simp] theorem ze277:ofZero Tryz.prog 277=some (.agg (List.replicate 64 (.int .u32 0))):=by rw [ofZero,in277];kernel_rfl
@[simp] theorem ia277 (x ix:AV):indexAddrA Tryz.prog 277 x ix=(idx ix 64).bind fun i=>addOff x (i*1):=indexAddr_arr Tryz.underlying277 sz213 x ix
@[simp] theorem bu277 (ps:List (Nat×AV)):buildA Tryz.prog 277 ps=(fillA (fun i=>some (i*1,1)) (List.replicate 64 (.int .u32 0)) ps).map .agg:=bu_arr ze277 Tryz.underlying277 sz213 ps
@[simp] theorem ze372:ofZero Tryz.prog 372=some (.agg ([.nilp,.nils])):=by rw [ofZero,in372];kernel_rfl
@[simp] theorem fi372n1 (x:AV):fieldA Tryz.prog 372 x 1=addOff x 1:=fi_of (k:=1) (ft:=227) (off:=1) (n:=0) Tryz.underlying372 rfl rfl sz227 rfl x
@[simp] theorem ze407:ofZero Tryz.prog 407=some (.agg ([.int .i64 0,.bool false])):=by rw [ofZero,in407];kernel_rfl
@[simp] theorem fi407n0 (x:AV):fieldA Tryz.prog 407 x 0=addOff x 0:=fi_of (k:=0) (ft:=3) (off:=0) (n:=0) Tryz.underlying407 rfl rfl sz3 rfl x
@[simp] theorem fi407n1 (x:AV):fieldA Tryz.prog 407 x 1=addOff x 1:=fi_of (k:=1) (ft:=4) (off:=1) (n:=0) Tryz.underlying407 rfl rfl sz4 rfl x
@[simp] theorem bu407 (ps:List (Nat×AV)):buildA Tryz.prog 407 ps=(fillA (fun i=>([(0,1),(1,1)]:List (Nat×Nat))[i]?) ([.int .i64 0,.bool false]) ps).map .agg:=bu_of [(0,1),(1,1)] ze407 Tryz.underlying407 (by simp) ps
end Go.Proofs.Ev
namespace Go.Proofs.Ev
open Go.Proofs
variable {C:Cfg}
def cmpD:List Nat→List Nat→Int
 | a::l,b::m=>if a<b then -1 else if b<a then 1 else cmpD l m
 | _,_=>0
theorem cmpD_step {a b:List Nat} {k:Nat} (ha:k<a.length) (hb:k<b.length):cmpD (a.drop k) (b.drop k)=if a[k]<b[k] then -1 else if b[k]<a[k] then 1 else cmpD (a.drop (k+1)) (b.drop (k+1)):=by
 rw [List.drop_eq_getElem_cons ha,List.drop_eq_getElem_cons hb];rfl
theorem ret_cmpD (hp:C.prim 34=none) (hq:C.pure 34=true) (a b:List Nat) (ha:a.length=32) (hb:b.length=32):Ret Tryz.prog C 34 [] [.agg (dig a),.agg (dig b)] (.int .i64 (cmpD a b)):=by
 refine ret_pure hq fun H=>func_rule Tryz.func34 rfl hp (by simp) (by kernel_rfl) ?_
 unfold Tryz.f34
 simp [argS,ha,hb]
 refine loopC_rule (fun s H'=>H'=H++[.rows 32 0 [dig a],.rows 32 0 [dig b]]∧s 2=.ptr H.length 0 32 0 0∧s 3=.ptr (H.length+1) 0 32 0 0∧s 4=.int .i64 0∧∃k:Nat,s 5=.int .i64 k∧k≤32∧cmpD a b=cmpD (a.drop k) (b.drop k)) (fun s _=>32-(match s 5 with | .int _ k=>k.toNat | _=>0)) ?_ ?_
 ·simp
  exact ⟨0,by simp⟩
 rintro s H' ⟨rfl,h2,h3,h4,k,h5,hk,hc⟩
 simp [h2,h3,h4,h5,-idx]
 refine ⟨fun h=>?_,fun h=>?_⟩
 ·have h:k<32:=by omega
  have e1:=dig_get (l:=a) (k:=k) (by omega)
  have e2:=dig_get (l:=b) (k:=k) (by omega)
  rw [cmpD_step (by omega) (by omega)] at hc
  simp [idx_nat,h,h2,h3,h4,h5,ha,hb,e1,e2,-idx,-List.head?_drop]
  rw [wrap_succ h (by decide)]
  refine ⟨fun h1=>by rw [hc,if_pos h1],fun h1=>⟨fun h2=>by rw [hc,if_neg (by omega),if_pos h2],fun h2=>⟨⟨k+1,rfl,by omega,by rw [hc,if_neg (by omega),if_neg (by omega)]⟩,by rw [Int.toNat_natCast];exact Nat.sub_lt_sub_left h (Nat.lt_succ_self k)⟩⟩⟩
 ·have h:k=32:=by omega
  subst h
  rw [hc,List.drop_eq_nil_of_le (by omega)];rfl
end Go.Proofs.Ev
namespace Go.Proofs.Ev
open Go.Proofs
structure Setting (C:Cfg):Prop where
 prim:∀f,f∉[145,325,394,128,311,87,94,104,133,209,237,131,134,6]→C.prim f=none
 pure:∀f,f∈[169,70,34,330,331,120,332,16,184,185,123,336,378,186]→C.pure f=true
 kDig:C.kinds 25=some (List.replicate 32 (.int .u8))
 kId:C.kinds 27=some (List.replicate 32 (.int .u8)++[.int .i64])
variable {C:Cfg}
theorem eq_dig (S:Setting C) (a b:List Nat) (ha:a.length=32) (hb:b.length=32):binA Tryz.prog C .eql 25 (.agg (dig a)) (.agg (dig b))=some (.bool (decide (a=b))):=by
 have h1:=conf_dig a;rw [ha] at h1
 have h2:=conf_dig b;rw [hb] at h2
 simp only [binA,eqA,S.kDig,h1,h2,Bool.and_self,if_true,cellsEq_dig a b (by omega)];rfl
theorem eq_id (S:Setting C) (a b:IdV):binA Tryz.prog C .eql 27 (.agg a.cells) (.agg b.cells)=some (.bool (decide (a.d=b.d)&&a.n==b.n)):=by
 have h1:=conf_dig a.d;rw [a.h] at h1
 have h2:=conf_dig b.d;rw [b.h] at h2
 have key:∀x:IdV,conf (List.replicate 32 (.int .u8)++[.int .i64]) x.cells=true:=by
  intro x
  have h1:=conf_dig x.d;rw [x.h] at h1
  have gen:∀(l:List LK) (m:List AV),conf l m=true→conf (l++[.int .i64]) (m++[.int .i64 x.n])=true:=by
   intro l
   induction l with
   | nil=>intro m h;cases m with
    | nil=>rfl
    | cons a m=>simp [conf] at h
   | cons k l ih=>intro m h;cases m with
    | nil=>simp [conf] at h
    | cons a m=>simp only [List.cons_append,conf,Bool.and_eq_true] at h ⊢;exact ⟨h.1,ih m h.2⟩
  exact gen _ _ h1
 have ce:cellsEq a.cells b.cells=(decide (a.d=b.d)&&a.n==b.n):=by
  simp only [IdV.cells,cellsEq_append (show (dig a.d).length=(dig b.d).length by simp [a.h,b.h]),cellsEq_dig a.d b.d (by rw [a.h,b.h]),cellsEq,cellEq,Bool.and_true]
 simp only [binA,eqA,S.kId,key,Bool.and_self,if_true,ce];rfl
def zeroD (a:List Nat):Bool:=decide (a=digest0)
theorem ret_zero (S:Setting C) (a:List Nat) (ha:a.length=32):Ret Tryz.prog C 70 [] [.agg (dig a)] (.bool (zeroD a)):=by
 refine ret_pure (S.pure _ (by decide)) fun H=>func_rule Tryz.func70 rfl (S.prim _ (by decide)) (by simp) (by kernel_rfl) ?_
 unfold Tryz.f70
 have e:=eq_dig S a digest0 ha (by decide)
 simp [argS,ha,List.take_of_length_le,fillA,e,zeroD]
def cmpI (a b:IdV):Int:=if cmpD a.d b.d=0 then (if a.n<b.n then -1 else if b.n<a.n then 1 else 0) else cmpD a.d b.d
theorem ret_cmpI (S:Setting C) (a b:IdV):Ret Tryz.prog C 336 [] [.agg a.cells,.agg b.cells] (.int .i64 (cmpI a b)):=by
 refine ret_pure (S.pure _ (by decide)) fun H=>func_rule Tryz.func336 rfl (S.prim _ (by decide)) (by simp) (by kernel_rfl) ?_
 unfold Tryz.f336
 have e:=(ret_cmpD (S.prim _ (by decide)) (S.pure _ (by decide)) a.d b.d a.h b.h).eq
 simp [argS,e,cmpI]
 grind
def rootId:IdV:=⟨digest0,-1,by decide,by decide⟩
theorem ret_root (S:Setting C):Ret Tryz.prog C 16 [] [] (.agg rootId.cells):=by
 refine ret_pure (S.pure _ (by decide)) fun H=>func_rule Tryz.func16 rfl (S.prim _ (by decide)) (by simp) (by kernel_rfl) ?_
 unfold Tryz.f16
 have e:Ev.dig zeroId.d++[AV.int .i64 (-1)]=rootId.cells:=rfl
 simp [argS,storeA,fillA,zeroId.h,e]
 simp [freeze_closed,AV.closed,←e,closeds_append,closeds_dig,AV.closeds]
def allowedB (x:IdV) (first:Int):Bool:=if zeroD x.d then decide (0≤x.n)&&decide (x.n<first) else decide (0≤x.n)&&decide (x.n<100000)
theorem ret_allowed (S:Setting C) (x:IdV) (n:Int):Ret Tryz.prog C 378 [] [.agg x.cells,.int .i64 n] (.bool (allowedB x n)):=by
 refine ret_pure (S.pure _ (by decide)) fun H=>func_rule Tryz.func378 rfl (S.prim _ (by decide)) (by simp) (by kernel_rfl) ?_
 unfold Tryz.f378
 have e:=(ret_zero S x.d x.h).eq
 simp +contextual [-Bool.not_and,-Bool.not_or,argS,e,guardV,allowedB]
def wantI (k:Int):Int:=if k=7 then 0 else k
theorem ret_want (S:Setting C) (k:Int):Ret Tryz.prog C 186 [] [.int .i64 k] (.int .i64 (wantI k)):=by
 refine ret_pure (S.pure _ (by decide)) fun H=>func_rule Tryz.func186 rfl (S.prim _ (by decide)) (by simp) (by kernel_rfl) ?_
 unfold Tryz.f186
 simp +contextual [argS,wantI]
def textB (k:Int):Bool:=k==5||k==6
theorem ret_text (S:Setting C) (k:Int):Ret Tryz.prog C 184 [] [.int .i64 k] (.bool (textB k)):=by
 refine ret_pure (S.pure _ (by decide)) fun H=>func_rule Tryz.func184 rfl (S.prim _ (by decide)) (by simp) (by kernel_rfl) ?_
 unfold Tryz.f184
 simp +contextual [-Bool.not_and,-Bool.not_or,argS,guardV,textB]
def fitsFileB (k:Int) (x:AtV):Bool:=if x.kind=1 then (if textB k then x.type==1 else k != 4||x.type==2||x.type==3) else false
theorem ret_fitsFile (S:Setting C) (k:Int) (x:AtV):Ret Tryz.prog C 120 [] [.int .i64 k,.agg x.cells] (.bool (fitsFileB k x)):=by
 refine ret_pure (S.pure _ (by decide)) fun H=>func_rule Tryz.func120 rfl (S.prim _ (by decide)) (by simp) (by kernel_rfl) ?_
 unfold Tryz.f120
 have e:=(ret_text S k).eq
 simp +contextual [-Bool.not_and,-Bool.not_or,argS,guardV,e,fitsFileB]
def sameId (a b:IdV):Bool:=decide (a.d=b.d)&&a.n==b.n
def fitsEndB (f:IdV) (x:AtV):Bool:=x.kind==5&&sameId x.file f
theorem ret_fitsEnd (S:Setting C) (f:IdV) (x:AtV):Ret Tryz.prog C 185 [] [.agg f.cells,.agg x.cells] (.bool (fitsEndB f x)):=by
 refine ret_pure (S.pure _ (by decide)) fun H=>func_rule Tryz.func185 rfl (S.prim _ (by decide)) (by simp) (by kernel_rfl) ?_
 unfold Tryz.f185
 have e:=eq_id S
 simp +contextual [-Bool.not_and,-Bool.not_or,argS,guardV,e,fitsEndB,sameId]
def fitsOverB (k:Int) (f:IdV) (x:AtV):Bool:=wantI k==0||(x.kind==wantI k&&sameId x.file f)
theorem ret_fitsOver (S:Setting C) (k:Int) (f:IdV) (x:AtV):Ret Tryz.prog C 123 [] [.int .i64 k,.agg f.cells,.agg x.cells] (.bool (fitsOverB k f x)):=by
 refine ret_pure (S.pure _ (by decide)) fun H=>func_rule Tryz.func123 rfl (S.prim _ (by decide)) (by simp) (by kernel_rfl) ?_
 unfold Tryz.f123
 have e:=eq_id S
 have e2:=(ret_want S k).eq
 cases hw:(wantI k==0) with
 | true=>simp +contextual [-Bool.not_and,-Bool.not_or,argS,guardV,e,e2,fitsOverB,sameId,hw]
 | false=>simp +contextual [-Bool.not_and,-Bool.not_or,argS,guardV,e,e2,fitsOverB,sameId,hw]
def getAt (own:List AtV) (x:IdV):AtV:=if zeroD x.d&&decide (0≤x.n)&&decide (x.n<own.length) then own.getD x.n.toNat zeroAt else zeroAt
theorem ret_get (S:Setting C) (own:List AtV) (k:SK) (x:IdV):Ret Tryz.prog C 332 [] [slAV k (own.map AtV.cells),.agg x.cells] (.agg (getAt own x).cells):=by
 refine ret_pure (S.pure _ (by decide)) fun H=>func_rule Tryz.func332 rfl (S.prim _ (by decide)) (by simp) (by kernel_rfl) ?_
 unfold Tryz.f332
 have e:=(ret_zero S x.d x.h).eq
 cases hx:(zeroD x.d&&decide (0≤x.n)&&decide (x.n<(own.length:Int))) with
 | true =>
  have hx2:=hx
  simp only [Bool.and_eq_true,decide_eq_true_eq] at hx2
  have hlt:x.n.toNat<own.length:=by omega
  simp [-Bool.not_and,-Bool.not_or,argS,guardV,e,storeA,hx2,hlt,getAt,freeze_closed,AV.closed]
 | false =>
  simp +contextual [-Bool.not_and,-Bool.not_or,argS,guardV,e,storeA,fillA,hx,getAt,freeze_closed,AV.closed]
def oneE (x:IdV) (n:Int) (fits:Bool):Int:=if allowedB x n then (if zeroD x.d&&!fits then 8 else 0) else 7
theorem ret_one (S:Setting C) (own:List AtV) (k:SK) (x:IdV) (fits:Bool):Ret Tryz.prog C 331 [] [.agg x.cells,slAV k (own.map AtV.cells),.bool fits] (.int .i64 (oneE x own.length fits)):=by
 refine ret_pure (S.pure _ (by decide)) fun H=>func_rule Tryz.func331 rfl (S.prim _ (by decide)) (by simp) (by kernel_rfl) ?_
 unfold Tryz.f331
 have e:=(ret_zero S x.d x.h).eq
 have e2:=(ret_allowed S x own.length).eq
 simp +contextual [-Bool.not_and,-Bool.not_or,argS,guardV,e,e2,oneE]
end Go.Proofs.Ev
namespace Go.Proofs.Ev
open Go.Proofs
variable {P:Program} {C:Cfg}
def nameC (c:UInt8):Bool:=(decide (97≤(c.toNat:Int))&&decide ((c.toNat:Int)≤122))||(decide (65≤(c.toNat:Int))&&decide ((c.toNat:Int)≤90))||(decide (48≤(c.toNat:Int))&&decide ((c.toNat:Int)≤57))||(c.toNat:Int)==46||(c.toNat:Int)==95||(c.toNat:Int)==45
def nameB (s:List UInt8):Bool:=s.all nameC&&(decide (1≤(s.length:Int))&&decide ((s.length:Int)≤40)&&!s==[46]&&!s==[46,46])
theorem all_take {p:UInt8→Bool} {l:List UInt8} {k:Nat} (h:k<l.length):(l.take (k+1)).all p=((l.take k).all p&&p l[k]):=by
 rw [List.take_succ_eq_append_getElem h,List.all_append];simp
theorem all_not {p:UInt8→Bool} {l:List UInt8} {k:Nat} (h:k<l.length) (hp:p l[k]=false):l.all p=false:=by
 rw [List.all_eq_false];exact ⟨l[k],List.getElem_mem h,by simp [hp]⟩
theorem ret_name (hp:C.prim 169=none) (hq:C.pure 169=true) (l:List UInt8) (hl:l.length≤2^40):Ret Tryz.prog C 169 [] [.str l] (.bool (nameB l)):=by
 refine ret_pure hq fun H=>func_rule Tryz.func169 rfl hp (by simp) (by kernel_rfl) ?_
 unfold Tryz.f169
 simp [argS]
 refine loopC_rule (fun s H'=>H'=H∧s 0=.str l∧∃k:Nat,s 3=.int .i64 k∧k≤l.length∧(l.take k).all nameC=true) (fun s _=>l.length-(match s 3 with | .int _ k=>k.toNat | _=>0)) ?_ ?_
 ·exact ⟨rfl,rfl,0,rfl,by simp⟩
 rintro s H' ⟨rfl,h0,k,h3,hk,hc⟩
 simp [h0,h3,-idx]
 refine ⟨fun h=>?_,fun h=>?_⟩
 ·have e1:=all_take (p:=nameC) h
  rw [hc,Bool.true_and] at e1
  have e2:nameC l[k]=false→nameB l=false:=fun h2=>by simp [nameB,all_not h h2]
  simp +contextual [-Bool.not_and,-Bool.not_or,-idx,idx_nat,h,guardV,h0,h3,wrap_succ h (by omega)]
  cases hn:nameC l[k] with
  | true =>
   rw [hn] at e1
   simp only [nameC,Bool.or_eq_true,Bool.and_eq_true,decide_eq_true_eq,beq_iff_eq] at hn
   exact ⟨fun _=>⟨⟨k+1,by simp,by omega,by simpa using e1⟩,Nat.sub_lt_sub_left h (Nat.lt_succ_self k)⟩,fun a b c d e f=>by
    rcases hn with ((((⟨x,y⟩ | ⟨x,y⟩) | ⟨x,y⟩) | x) | x) | x<;>first | omega | (have:=a x;omega) | (have:=b x;omega) | (have:=c x;omega)⟩
  | false =>
   refine ⟨fun a=>absurd hn ?_,fun _ _ _ _ _ _=>e2 hn⟩
   simp only [nameC,Bool.not_eq_false,Bool.or_eq_true,Bool.and_eq_true,decide_eq_true_eq,beq_iff_eq]
   exact a
 ·have h:k=l.length:=by omega
  subst h
  rw [List.take_length] at hc
  simp +contextual [-Bool.not_and,-Bool.not_or,h0,guardV]
  simp only [nameB,hc,Bool.true_and]
end Go.Proofs.Ev
namespace Go.Proofs.Ev
open Go.Proofs
variable {C:Cfg}
structure Setting2 (C:Cfg):Prop extends Setting C where
 pure2:∀f,f∈[376,328,327,262,329,377,395]→C.pure f=true
 frz2:∀f,f∈[263]→C.pure f=false∧C.frz f=true
theorem ret_none (S:Setting2 C):Ret Tryz.prog C 376 [] [] (.agg zeroId.cells):=by
 refine ret_pure (S.pure2 _ (by decide)) fun H=>func_rule Tryz.func376 rfl (S.prim _ (by decide)) (by simp) (by kernel_rfl) ?_
 unfold Tryz.f376
 simp [argS,storeA,fillA,freeze_closed,AV.closed]
def rest1 (c:ChV):ChV:=if 2≤c.kind∧c.kind≤6 then { c with file:=zeroId } else c
def rest2 (c:ChV):ChV:=if c.kind≠1∧c.kind≠5 then { c with over:=[],overK:=.nil } else c
def rest3 (c:ChV):ChV :=
 if c.kind=1 then { c with type:=0 } else if c.kind=2 then { c with parent:=zeroId,name:=[] } else if c.kind=3 then { c with mode:=0 }
 else if c.kind=4 then { c with data:=[] } else if c.kind=5 then { c with after:=zeroId,before:=zeroId,lines:=[],linesK:=.nil }
 else if c.kind=6 then { c with after:=zeroId,before:=zeroId } else c
def restV (c:ChV):ChV:=rest3 (rest2 (rest1 c))
theorem ret_rest (S:Setting2 C) (c:ChV):Ret Tryz.prog C 328 [] [.agg c.cells] (.agg (restV c).cells):=by
 refine ret_pure (S.pure2 _ (by decide)) fun H=>func_rule Tryz.func328 rfl (S.prim _ (by decide)) (by simp) (by kernel_rfl) ?_
 unfold Tryz.f328
 have e:=(ret_none S).eq
 have hk:c.kind=1∨c.kind=2∨c.kind=3∨c.kind=4∨c.kind=5∨c.kind=6∨(¬(2≤c.kind∧c.kind≤6)∧c.kind≠1∧c.kind≠2∧c.kind≠3∧c.kind≠4∧c.kind≠5∧c.kind≠6):=by omega
 rcases hk with hk | hk | hk | hk | hk | hk | ⟨h0,h1,h2,h3,h4,h5,h6⟩
 ·simp [argS,guardV,e,storeA,fillA,restV,rest1,rest2,rest3,freeze_closed,AV.closed,hk]
 ·simp [argS,guardV,e,storeA,fillA,restV,rest1,rest2,rest3,freeze_closed,AV.closed,hk]
 ·simp [argS,guardV,e,storeA,fillA,restV,rest1,rest2,rest3,freeze_closed,AV.closed,hk]
 ·simp [argS,guardV,e,storeA,fillA,restV,rest1,rest2,rest3,freeze_closed,AV.closed,hk]
 ·simp [argS,guardV,e,storeA,fillA,restV,rest1,rest2,rest3,freeze_closed,AV.closed,hk]
 ·simp [argS,guardV,e,storeA,fillA,restV,rest1,rest2,rest3,freeze_closed,AV.closed,hk]
 ·have h7:(decide (2≤c.kind)&&decide (c.kind≤6))=false:=by simpa using h0
  simp +contextual [-Bool.not_and,-Bool.not_or,argS,guardV,e,storeA,fillA,restV,rest1,rest2,rest3,freeze_closed,AV.closed,h0,h1,h2,h3,h4,h5,h6,h7]
def nullId (a:IdV):Bool:=sameId a zeroId
def emptyB (c:ChV):Bool:=nullId c.file&&c.type==0&&nullId c.parent&&c.name==[]&&c.mode==0&&c.data==[]&&nullId c.after&&nullId c.before&&(c.lines.length:Int)==0&&(c.over.length:Int)==0
set_option maxRecDepth 100000 in
set_option maxHeartbeats 2000000 in
theorem ret_empty (S:Setting2 C) (c:ChV):Ret Tryz.prog C 327 [] [.agg c.cells] (.bool (emptyB c)):=by
 refine ret_pure (S.pure2 _ (by decide)) fun H=>func_rule Tryz.func327 rfl (S.prim _ (by decide)) (by simp) (by kernel_rfl) ?_
 unfold Tryz.f327
 have e:=(ret_none S).eq
 have e2:=eq_id S.toSetting
 simp +contextual [-Bool.not_and,-Bool.not_or,argS,guardV,e,e2,emptyB,nullId,sameId]
end Go.Proofs.Ev
namespace Go.Proofs.Ev
open Go.Proofs
variable {C:Cfg}
theorem sub_lt {n k:Nat} (h:k<n):n-(k+1)<n-k:=Nat.sub_lt_sub_left h (Nat.lt_succ_self k)
def okC (a b:Int) (c:UInt8):Bool:=!((c.toNat:Int)==a||(c.toNat:Int)==b)
theorem ret_clean (S:Setting2 C) (l:List UInt8) (a b:Int) (hl:l.length≤2^40):Ret Tryz.prog C 395 [] [.str l,.int .u8 a,.int .u8 b] (.bool (l.all (okC a b))):=by
 refine ret_pure (S.pure2 _ (by decide)) fun H=>func_rule Tryz.func395 rfl (S.prim _ (by decide)) (by simp) (by kernel_rfl) ?_
 unfold Tryz.f395
 simp [argS]
 refine loopC_rule (fun s H'=>H'=H∧s 0=.str l∧s 1=.int .u8 a∧s 2=.int .u8 b∧∃k:Nat,s 7=.int .i64 k∧k≤l.length∧(l.take k).all (okC a b)=true) (fun s _=>l.length-(match s 7 with | .int _ k=>k.toNat | _=>0)) ?_ ?_
 ·exact ⟨rfl,rfl,rfl,rfl,0,rfl,by simp⟩
 rintro s H' ⟨rfl,h0,h1,h2,k,h3,hk,hc⟩
 simp [h0,h1,h2,h3]
 refine ⟨fun h=>?_,fun h=>?_⟩
 ·have e1:=all_take (p:=okC a b) h
  rw [hc,Bool.true_and] at e1
  have e2:=all_not (p:=okC a b) h
  cases hn:okC a b l[k] with
  | true =>
   rw [hn] at e1
   have hn2:=hn
   simp only [okC,Bool.not_eq_true',Bool.or_eq_false_iff] at hn2
   simp +contextual [-Bool.not_and,-Bool.not_or,-List.all_eq_true,h,guardV,h0,h1,h2,h3,wrap_succ h (by omega),hn2.1,hn2.2]
   exact ⟨⟨k+1,by simp,by omega,by simpa using e1⟩,sub_lt h⟩
  | false =>
   have hn2:=hn
   simp only [okC,Bool.not_eq_false'] at hn2
   rw [e2 hn]
   simp +contextual [-Bool.not_and,-Bool.not_or,-List.all_eq_true,h,guardV,h0,h1,h2,h3,hn2]
 ·have h:k=l.length:=by omega
  subst h
  rw [List.take_length] at hc
  exact List.all_eq_true.1 hc
def validB (l:List UInt8):Bool:=decide ((l.length:Int)≤1000)&&l.all (okC 10 0)
theorem ret_valid (S:Setting2 C) (l:List UInt8) (hl:l.length≤2^40):Ret Tryz.prog C 377 [] [.str l] (.bool (validB l)):=by
 refine ret_pure (S.pure2 _ (by decide)) fun H=>func_rule Tryz.func377 rfl (S.prim _ (by decide)) (by simp) (by kernel_rfl) ?_
 unfold Tryz.f377
 have e:=(ret_clean S l 10 0 hl).eq
 simp +contextual [-Bool.not_and,-Bool.not_or,-List.all_eq_true,argS,guardV,e,validB]
def linesE (l:List (List UInt8)):Int:=if l.length=0 then 1 else if 2000<l.length then 4 else if l.all validB then 0 else 3
theorem ret_lines (S:Setting2 C) (l:List (List UInt8)) (k:SK) (hl:∀x∈l,x.length≤2^40):Ret Tryz.prog C 329 [] [slAV k (l.map strC)] (.int .i64 (linesE l)):=by
 refine ret_pure (S.pure2 _ (by decide)) fun H=>func_rule Tryz.func329 rfl (S.prim _ (by decide)) (by simp) (by kernel_rfl) ?_
 unfold Tryz.f329
 simp [argS]
 refine ⟨fun h=>by simp [linesE,h],fun hne=>⟨fun h=>by simp [linesE,hne,show 2000<l.length by omega],fun hle=>?_⟩⟩
 have hle:l.length≤2000:=by omega
 refine loopC_rule (fun s H'=>H'=H∧s 0=slAV k (l.map strC)∧∃k:Nat,s 3=.int .i64 k∧k≤l.length∧(l.take k).all validB=true) (fun s _=>l.length-(match s 3 with | .int _ k=>k.toNat | _=>0)) ?_ ?_
 ·exact ⟨rfl,rfl,0,rfl,by simp⟩
 rintro s H' ⟨rfl,h0,j,h3,hk,hc⟩
 simp [h0,h3]
 refine ⟨fun h=>?_,fun h=>?_⟩
 ·have e:=(ret_valid S l[j] (hl _ (List.getElem_mem h))).eq
  have hn0:linesE l=if l.all validB then 0 else 3:=by simp only [linesE,if_neg (show ¬l.length=0 by simpa using hne),if_neg (show ¬2000<l.length by omega)]
  cases hn:validB l[j] with
  | true =>
   have e1:(l.take (j+1)).all validB=true:=by rw [List.take_succ_eq_append_getElem h,List.all_append,hc];simp [hn]
   rw [hn] at e
   simp [-List.all_eq_true,h,h0,h3,strC,e,wrap_succ h (by omega)]
   exact ⟨⟨j+1,by simp,by omega,by simpa using e1⟩,sub_lt h⟩
  | false =>
   rw [hn] at e
   have e1:l.all validB=false:=by rw [List.all_eq_false];exact ⟨l[j],List.getElem_mem h,by simp [hn]⟩
   simp [-List.all_eq_true,h,h0,h3,strC,e,hn0,e1]
 ·have h:j=l.length:=by omega
  subst h
  rw [List.take_length] at hc
  simp [linesE,hne,hc,show ¬2000<l.length by omega]
def ascB:List IdV→Bool
 | a::b::l=>decide (cmpI a b<0)&&ascB (b::l)
 | _=>true
theorem asc_step {l:List IdV} {k:Nat} (hk:k+1<l.length):ascB (l.drop k)=(decide (cmpI l[k] l[k+1]<0)&&ascB (l.drop (k+1))):=by
 rw [List.drop_eq_getElem_cons (show k<l.length by omega),List.drop_eq_getElem_cons hk];rfl
theorem asc_end {l:List IdV} {k:Nat} (hk:l.length≤k+1):ascB (l.drop k)=true:=by
 have:(l.drop k).length≤1:=by simp;omega
 generalize l.drop k=m at this
 match m,this with
 | [],_=>rfl
 | [_],_=>rfl
theorem ret_asc (S:Setting2 C) (l:List IdV) (K:SK) (hl:l.length≤2^40):Ret Tryz.prog C 330 [] [slAV K (l.map IdV.cells)] (.bool (ascB l)):=by
 refine ret_pure (S.pure _ (by decide)) fun H=>func_rule Tryz.func330 rfl (S.prim _ (by decide)) (by simp) (by kernel_rfl) ?_
 unfold Tryz.f330
 simp [argS]
 refine loopC_rule (fun s H'=>H'=H∧s 0=slAV K (l.map IdV.cells)∧∃k:Nat,s 3=.int .i64 ((k:Int)+1)∧k≤l.length∧ascB l=ascB (l.drop k)) (fun s _=>l.length+1-(match s 3 with | .int _ k=>k.toNat | _=>0)) ?_ ?_
 ·exact ⟨rfl,rfl,0,rfl,by simp⟩
 rintro s H' ⟨rfl,h0,k,h3,hk,hc⟩
 simp [h0,h3]
 refine ⟨fun hh=>?_,fun h=>?_⟩
 ·have h:k+1<l.length:=by omega
  have e:=(ret_cmpI S.toSetting l[k] l[k+1]).eq
  have w1:IntKind.i64.wrap (k:Int)=(k:Int):=wrap_nat (by omega)
  have w2:IntKind.i64.wrap ((k:Int)+1+1)=((k+1:Nat):Int)+1:=by rw [wrap_in (by omega) (by omega)];omega
  have hk0:k<l.length:=by omega
  have t1:((k:Int)+1).toNat=k+1:=by omega
  have t2:(0:Int)≤(k:Int)+1:=by omega
  rw [asc_step h] at hc
  simp [h,hh,h0,h3,e,w1,w2,t1,t2,hk0]
  refine ⟨fun h4=>?_,fun h4=>⟨⟨k+1,by simp,by omega,?_⟩,?_⟩⟩
  ·rw [hc];simp;omega
  ·rw [hc];simp [h4]
  ·rw [show ((k:Int)+1+1).toNat=k+2 by omega];omega
 ·rw [asc_end (by omega)] at hc
  exact hc
end Go.Proofs.Ev
namespace Go.Proofs.Ev
open Go.Proofs
variable {C:Cfg}
structure ChV.Ok (c:ChV):Prop where
 name:c.name.length≤2^40
 data:c.data.length≤2^40
 lines:∀x∈c.lines,x.length≤2^40
 linesN:c.lines.length≤2^40
 overN:c.over.length≤2^40
def fieldsE (c:ChV):Int :=
 if (decide (c.kind<1)||decide (7<c.kind))=true then 8
 else if emptyB (restV c)=false then 1
 else if (c.kind==1&&(decide (c.type<1)||decide (4<c.type)))=true then 8
 else if (c.kind==2&&!nameB c.name)=true then 5
 else if (c.kind==3&&(decide (c.mode<0)||decide (511<c.mode)))=true then 2
 else if 65536<(c.data.length:Int) then 4
 else if c.kind=5 then linesE c.lines
 else if (c.kind==7&&(c.over.length:Int)==0)=true then 1
 else if 400<(c.over.length:Int) then 4
 else if ascB c.over=false then 9 else 0
set_option maxRecDepth 100000 in
set_option maxHeartbeats 2000000 in
theorem ret_fields (S:Setting2 C) (c:ChV) (hc:c.Ok):Ret Tryz.prog C 262 [] [.agg c.cells] (.int .i64 (fieldsE c)):=by
 refine ret_pure (S.pure2 _ (by decide)) fun H=>func_rule Tryz.func262 rfl (S.prim _ (by decide)) (by simp) (by kernel_rfl) ?_
 unfold Tryz.f262
 have e1:=(ret_rest S c).eq
 have e2:=(ret_empty S (restV c)).eq
 have e3:=(ret_name (S.prim _ (by decide)) (S.pure _ (by decide)) c.name hc.name).eq
 have e4:=(ret_lines S c.lines c.linesK hc.lines).eq
 have e5:=(ret_asc S c.over c.overK hc.overN).eq
 simp +contextual [-Bool.not_and,-Bool.not_or,argS,guardV,e1,e2,e3,e4,e5]
 simp only [fieldsE,Bool.or_eq_true,Bool.and_eq_true,decide_eq_true_eq,beq_iff_eq,Bool.not_eq_true',Int.natCast_eq_zero,List.length_eq_zero_iff]
 clear e1 e2 e3 e4 e5
 repeat' (first | (refine And.intro ?_ ?_) | intro _)
 all_goals grind
end Go.Proofs.Ev
namespace Go.Proofs.Ev
open Go.Proofs
variable {C:Cfg}
def ref1 (c:ChV) (own:List AtV):Int:=if 2≤c.kind∧c.kind≤6 then oneE c.file own.length (fitsFileB c.kind (getAt own c.file)) else 0
def ref2 (c:ChV) (own:List AtV):Int:=if c.kind=2∧sameId c.parent rootId=false then oneE c.parent own.length ((getAt own c.parent).kind==1&&(getAt own c.parent).type==4) else 0
def refEnd (c:ChV) (own:List AtV) (x:IdV):Int:=oneE x own.length (sameId x c.file||fitsEndB c.file (getAt own x))
def refOver (c:ChV) (own:List AtV):List IdV→Int
 | []=>0
 | x::l=>if oneE x own.length (fitsOverB c.kind c.file (getAt own x))=0 then refOver c own l else oneE x own.length (fitsOverB c.kind c.file (getAt own x))
def ref3 (c:ChV) (own:List AtV):Int:=if textB c.kind=true then (if refEnd c own c.after=0 then refEnd c own c.before else refEnd c own c.after) else 0
def ref5 (c:ChV):Int:=if c.kind=2∧sameId c.parent c.file=true then 20 else if textB c.kind=true∧sameId c.after c.before=true∧(c.kind=6∨sameId c.after c.file=false) then 1 else 0
def refE (c:ChV) (own:List AtV):Int:=if ref1 c own≠0 then ref1 c own else if ref2 c own≠0 then ref2 c own else if ref3 c own≠0 then ref3 c own else if refOver c own c.over≠0 then refOver c own c.over else ref5 c
def refM (c:ChV) (own:List AtV) (K:SK) (H:Heap) (s:Sl) (H':Heap):Prop:=s 1=slAV K (own.map AtV.cells)∧s 2=.ptr H.length 0 139 0 0∧s 4=.int .i64 0∧∃J,H'=H++(.rows 139 0 [c.cells]::J)
theorem ne_of_eq {P:Program} {t:TypeId} {x y:List AV} {b:Bool} (h:binA P C .eql t (.agg x) (.agg y)=some (.bool b)):binA P C .neq t (.agg x) (.agg y)=some (.bool !b):=by
 simp only [binA] at h ⊢
 cases he:eqA P C t (.agg x) (.agg y) with
 | none=>rw [he] at h;cases h
 | some z=>rw [he] at h;simp only [Option.map_some,Option.some.injEq,AV.bool.injEq] at h;subst h;rfl
set_option maxRecDepth 100000 in
set_option maxHeartbeats 2000000 in
theorem ret_references (S:Setting2 C) (c:ChV) (own:List AtV) (K:SK) (hc:c.Ok):Ret0 Tryz.prog C 263 [.agg c.cells,slAV K (own.map AtV.cells)] (.int .i64 (refE c own)):=by
 refine ret_frzH (S.frz2 _ (by decide)).1 (S.frz2 _ (by decide)).2 rfl fun H=>func_rule Tryz.func263 rfl (S.prim _ (by decide)) (by simp) (by kernel_rfl) ?_
 unfold Tryz.f263
 have g1:=fun x=>(ret_get S.toSetting own K x).eq
 have g2:=fun k x=>(ret_fitsFile S.toSetting k x).eq
 have g3:=fun x b=>(ret_one S.toSetting own K x b).eq
 have g4:=(ret_root S.toSetting).eq
 have g5:=fun k=>(ret_text S.toSetting k).eq
 have g6:=fun f x=>(ret_fitsEnd S.toSetting f x).eq
 have g7:=fun k f x=>(ret_fitsOver S.toSetting k f x).eq
 have e:=fun a b=>(eq_id S.toSetting a b).trans (show _=some (.bool (sameId a b)) from rfl)
 have en:=fun a b=>ne_of_eq (e a b)
 refine cut (fun s H'=>refM c own K H s H') ?_ ?_
 ·simp [argS,refM]
 rintro s H' ⟨h1,h2,h4,J,rfl⟩
 refine cut (fun s H'=>refM c own K H s H'∧ref1 c own=0) ?_ ?_
 ·simp +contextual [-Bool.not_and,-Bool.not_or,h1,h2,h4,guardV,g1,g2,g3,refM,refE,ref1]
  try omega
 ·rintro s H' ⟨⟨h1,h2,h4,J,rfl⟩,hr1⟩
  refine cut (fun s H'=>refM c own K H s H'∧ref2 c own=0) ?_ ?_
  ·simp +contextual [-Bool.not_and,-Bool.not_or,h1,h2,h4,guardV,g1,g2,g3,g4,en,storeA,fillA,refM,refE,ref2,hr1]
  rintro s H' ⟨⟨h1,h2,h4,J,rfl⟩,hr2⟩
  refine cut (fun s H'=>refM c own K H s H'∧ref3 c own=0) ?_ ?_
  ·cases htx:textB c.kind with
   | false=>simp [h1,h2,h4,guardV,g5,htx,refM,ref3]
   | true =>
    simp [h1,h2,h4,guardV,g5,htx,buildSliceA,fillRows]
    refine loopC_rule (fun s H'=>refM c own K H s H'∧s 8=.lst [c.after.cells,c.before.cells] true∧∃k:Nat,s 9=.int .i64 k∧k≤2∧(1≤k→refEnd c own c.after=0)∧(2≤k→refEnd c own c.before=0)) (fun s _=>2-(match s 9 with | .int _ k=>k.toNat | _=>0)) ?_ ?_
    ·exact ⟨⟨h1,h2,h4,J,rfl⟩,rfl,0,rfl,by omega,by omega,by omega⟩
    rintro s H' ⟨⟨h1,h2,h4,J,rfl⟩,h8,k,h9,hk,ha,hb⟩
    have hk:k=0∨k=1∨k=2:=by omega
    rcases hk with rfl | rfl | rfl
    ·simp +contextual [-Bool.not_and,-Bool.not_or,h1,h2,h4,h8,h9,guardV,g1,g3,g6,e,refM,refE,ref3,htx,hr1,hr2,refEnd,show IntKind.i64.wrap 1=1 from rfl]
     intro h0
     exact ⟨1,rfl,by omega,by omega⟩
    ·have ha:=ha (by omega)
     simp only [refEnd] at ha
     simp +contextual [-Bool.not_and,-Bool.not_or,h1,h2,h4,h8,h9,guardV,g1,g3,g6,e,refM,refE,ref3,htx,hr1,hr2,refEnd,ha,show IntKind.i64.wrap (1+1)=2 from rfl,show IntKind.i64.wrap 2=2 from rfl]
     exact fun _=>⟨2,rfl,by omega⟩
    ·have ha:=ha (by omega)
     have hb:=hb (by omega)
     simp [h1,h2,h4,h8,h9,refM,ref3,htx,ha,hb]
  ·rintro s H' ⟨⟨h1,h2,h4,J,rfl⟩,hr3⟩
   refine cut (fun s H'=>refM c own K H s H'∧refOver c own c.over=0) ?_ ?_
   ·simp
    refine loopC_rule (fun s H'=>refM c own K H s H'∧∃k:Nat,s 11=.int .i64 k∧k≤c.over.length∧refOver c own c.over=refOver c own (c.over.drop k)) (fun s _=>c.over.length-(match s 11 with | .int _ k=>k.toNat | _=>0)) ?_ ?_
    ·exact ⟨⟨h1,h2,h4,J,rfl⟩,0,rfl,by omega,rfl⟩
    rintro s H' ⟨⟨h1,h2,h4,J,rfl⟩,k,h11,hk,hv⟩
    simp [h1,h2,h4,h11]
    refine ⟨fun h=>?_,fun h=>?_⟩
    ·have hov:=hc.overN
     rw [List.drop_eq_getElem_cons h] at hv
     simp only [refOver] at hv
     simp +contextual [-Bool.not_and,-Bool.not_or,h,h1,h2,h4,h11,guardV,g1,g3,g7,refM,refE,hr1,hr2,hr3,wrap_succ h (by omega)]
     refine ⟨fun h5=>?_,fun h5=>⟨⟨k+1,by simp,by omega,?_⟩,sub_lt h⟩⟩
     ·rw [hv,if_neg h5,if_neg h5]
     ·rw [hv,if_pos h5]
    ·have h:k=c.over.length:=by omega
     subst h
     rw [List.drop_length] at hv
     simp [h1,h2,h4,refM,hv,refOver]
   ·rintro s H' ⟨⟨h1,h2,h4,J,rfl⟩,hr4⟩
    simp +contextual [-Bool.not_and,-Bool.not_or,h1,h2,h4,guardV,g5,e,en,refE,hr1,hr2,hr3,hr4,ref5]
    grind
end Go.Proofs.Ev
