/- Part 8 of the proof that quiltlaw38.BlameTouching returns true: no statement of its own. -/
import Derived.Test.YtbpaeodbnleoaaaGreatDoorT7
import Derived.Test.YtbpaeodbnleoaaaGreatDoorProg
import Derived.Test.YtbpaeodbnleoaaaGreatDoorT6
set_option linter.all false
namespace Go.Proofs.Ev
open Go.Proofs
set_option maxRecDepth 100000
theorem RW:(Tryz.prog).info? 3=some Tryz.t3:=bw Tryz.typeInfo3
@[simp] theorem KG:bF Tryz.prog 3=some 1:=du RW rfl
@[simp] theorem Um:dO Tryz.prog 3=0:=by kernel_rfl
@[simp] theorem Ug:c8 Tryz.prog 3 1=0:=by kernel_rfl
theorem RX:(Tryz.prog).info? 4=some Tryz.t4:=bw Tryz.typeInfo4
@[simp] theorem Ss:bF Tryz.prog 4=some 1:=du RX rfl
@[simp] theorem Un:dO Tryz.prog 4=0:=by kernel_rfl
@[simp] theorem Uh:c8 Tryz.prog 4 1=0:=by kernel_rfl
theorem QM:(Tryz.prog).info? 5=some Tryz.t5:=bw Tryz.typeInfo5
@[simp] theorem NM:bF Tryz.prog 5=some 1:=du QM rfl
@[simp] theorem P8:bytesOf Tryz.prog 5=some 1:=ot QM rfl
@[simp] theorem Uo:dO Tryz.prog 5=0:=by kernel_rfl
@[simp] theorem Ui:c8 Tryz.prog 5 1=2:=by kernel_rfl
theorem Tw:(Tryz.prog).info? 9=some Tryz.t9:=bw Tryz.typeInfo9
@[simp] theorem Ls:bF Tryz.prog 9=some 1:=du Tw rfl
@[simp] theorem Uq:dO Tryz.prog 9=0:=by kernel_rfl
@[simp] theorem Uj:c8 Tryz.prog 9 1=0:=by kernel_rfl
theorem Mg:(Tryz.prog).info? 25=some Tryz.t25:=bw Tryz.typeInfo25
@[simp] theorem nN:bF Tryz.prog 25=some 32:=du Mg rfl
@[simp] theorem A6:bytesOf Tryz.prog 25=some 32:=ot Mg rfl
@[simp] theorem TI:dO Tryz.prog 25=0:=by kernel_rfl
theorem Mh:(Tryz.prog).info? 27=some Tryz.t27:=bw Tryz.typeInfo27
@[simp] theorem jS:bF Tryz.prog 27=some 33:=du Mh rfl
@[simp] theorem A7:bytesOf Tryz.prog 27=some 40:=ot Mh rfl
@[simp] theorem TJ:dO Tryz.prog 27=0:=by kernel_rfl
theorem On:(Tryz.prog).info? 30=some Tryz.t30:=bw Tryz.typeInfo30
@[simp] theorem QX:bF Tryz.prog 30=some 1:=du On rfl
@[simp] theorem TK:dO Tryz.prog 30=0:=by kernel_rfl
@[simp] theorem Tj:c8 Tryz.prog 30 1=0:=by kernel_rfl
theorem Oo:(Tryz.prog).info? 35=some Tryz.t35:=bw Tryz.typeInfo35
@[simp] theorem TD:bF Tryz.prog 35=some 1:=du Oo rfl
@[simp] theorem TL:dO Tryz.prog 35=0:=by kernel_rfl
@[simp] theorem Tk:c8 Tryz.prog 35 1=0:=by kernel_rfl
theorem Mi:(Tryz.prog).info? 39=some Tryz.t39:=bw Tryz.typeInfo39
@[simp] theorem O3:bF Tryz.prog 39=some 67:=du Mi rfl
@[simp] theorem P6:bytesOf Tryz.prog 39=some 96:=ot Mi rfl
@[simp] theorem TM:dO Tryz.prog 39=0:=by kernel_rfl
theorem QK:(Tryz.prog).info? 40=some Tryz.t40:=bw Tryz.typeInfo40
@[simp] theorem QY:bF Tryz.prog 40=some 1:=du QK rfl
@[simp] theorem TN:dO Tryz.prog 40=0:=by kernel_rfl
@[simp] theorem Tl:c8 Tryz.prog 40 1=0:=by kernel_rfl
theorem QL:(Tryz.prog).info? 41=some Tryz.t41:=bw Tryz.typeInfo41
@[simp] theorem QZ:bF Tryz.prog 41=some 1:=du QL rfl
@[simp] theorem TO:dO Tryz.prog 41=0:=by kernel_rfl
@[simp] theorem Tm:c8 Tryz.prog 41 1=0:=by kernel_rfl
theorem Ot:(Tryz.prog).info? 43=some Tryz.t43:=bw Tryz.typeInfo43
@[simp] theorem TE:bF Tryz.prog 43=some 2:=du Ot rfl
@[simp] theorem TP:dO Tryz.prog 43=0:=by kernel_rfl
theorem Mj:(Tryz.prog).info? 47=some Tryz.t47:=bw Tryz.typeInfo47
@[simp] theorem O4:bF Tryz.prog 47=some 35:=du Mj rfl
@[simp] theorem P7:bytesOf Tryz.prog 47=some 64:=ot Mj rfl
@[simp] theorem TQ:dO Tryz.prog 47=0:=by kernel_rfl
theorem Mk:(Tryz.prog).info? 51=some Tryz.t51:=bw Tryz.typeInfo51
@[simp] theorem CT:bF Tryz.prog 51=some 2:=du Mk rfl
@[simp] theorem P9:bytesOf Tryz.prog 51=some 16:=ot Mk rfl
@[simp] theorem TR:dO Tryz.prog 51=0:=by kernel_rfl
theorem QN:(Tryz.prog).info? 56=some Tryz.t56:=bw Tryz.typeInfo56
@[simp] theorem Q0:bF Tryz.prog 56=some 1:=du QN rfl
@[simp] theorem TS:dO Tryz.prog 56=0:=by kernel_rfl
@[simp] theorem Tn:c8 Tryz.prog 56 1=0:=by kernel_rfl
theorem Ou:(Tryz.prog).info? 57=some Tryz.t57:=bw Tryz.typeInfo57
@[simp] theorem O5:bF Tryz.prog 57=some 1:=du Ou rfl
@[simp] theorem TT:dO Tryz.prog 57=0:=by kernel_rfl
@[simp] theorem To:c8 Tryz.prog 57 1=0:=by kernel_rfl
theorem Ov:(Tryz.prog).info? 59=some Tryz.t59:=bw Tryz.typeInfo59
@[simp] theorem Q1:bF Tryz.prog 59=some 139:=du Ov rfl
@[simp] theorem TU:dO Tryz.prog 59=0:=by kernel_rfl
theorem QO:(Tryz.prog).info? 61=some Tryz.t61:=bw Tryz.typeInfo61
@[simp] theorem Q2:bF Tryz.prog 61=some 1:=du QO rfl
@[simp] theorem TV:dO Tryz.prog 61=0:=by kernel_rfl
@[simp] theorem Tp:c8 Tryz.prog 61 1=0:=by kernel_rfl
theorem Ow:(Tryz.prog).info? 63=some Tryz.t63:=bw Tryz.typeInfo63
@[simp] theorem Q3:bF Tryz.prog 63=some 5:=du Ow rfl
@[simp] theorem TW:dO Tryz.prog 63=0:=by kernel_rfl
theorem Ox:(Tryz.prog).info? 78=some Tryz.t78:=bw Tryz.typeInfo78
@[simp] theorem TF:bF Tryz.prog 78=some 1:=du Ox rfl
@[simp] theorem TX:dO Tryz.prog 78=0:=by kernel_rfl
@[simp] theorem Tq:c8 Tryz.prog 78 1=0:=by kernel_rfl
theorem Ml:(Tryz.prog).info? 83=some Tryz.t83:=bw Tryz.typeInfo83
@[simp] theorem nO:bF Tryz.prog 83=some 172:=du Ml rfl
@[simp] theorem p5:bytesOf Tryz.prog 83=some 296:=ot Ml rfl
@[simp] theorem TY:dO Tryz.prog 83=0:=by kernel_rfl
theorem Oy:(Tryz.prog).info? 87=some Tryz.t87:=bw Tryz.typeInfo87
@[simp] theorem TG:bF Tryz.prog 87=some 1:=du Oy rfl
@[simp] theorem TZ:dO Tryz.prog 87=0:=by kernel_rfl
@[simp] theorem Ts:c8 Tryz.prog 87 1=0:=by kernel_rfl
theorem Oz:(Tryz.prog).info? 94=some Tryz.t94:=bw Tryz.typeInfo94
@[simp] theorem TH:bF Tryz.prog 94=some 1:=du Oz rfl
@[simp] theorem T0:dO Tryz.prog 94=0:=by kernel_rfl
@[simp] theorem Tt:c8 Tryz.prog 94 1=0:=by kernel_rfl
theorem Mm:(Tryz.prog).info? 98=some Tryz.t98:=bw Tryz.typeInfo98
@[simp] theorem ML:bF Tryz.prog 98=some 37:=du Mm rfl
@[simp] theorem NY:bytesOf Tryz.prog 98=some 120:=ot Mm rfl
@[simp] theorem T2:dO Tryz.prog 98=0:=by kernel_rfl
theorem Oi:(Tryz.prog).info? 135=some Tryz.t135:=bw Tryz.typeInfo135
@[simp] theorem O0:bF Tryz.prog 135=some 1:=du Oi rfl
theorem Lc:(Tryz.prog).info? 149=some Tryz.t149:=bw Tryz.typeInfo149
@[simp] theorem Sm:bF Tryz.prog 149=some 1:=du Lc rfl
@[simp] theorem Su:dO Tryz.prog 149=0:=by kernel_rfl
@[simp] theorem Ry:c8 Tryz.prog 149 1=0:=by kernel_rfl
theorem Ld:(Tryz.prog).info? 203=some Tryz.t203:=bw Tryz.typeInfo203
@[simp] theorem Sn:bF Tryz.prog 203=some 1:=du Ld rfl
@[simp] theorem Sv:dO Tryz.prog 203=0:=by kernel_rfl
@[simp] theorem Rz:c8 Tryz.prog 203 1=0:=by kernel_rfl
theorem Oj:(Tryz.prog).info? 207=some Tryz.t207:=bw Tryz.typeInfo207
@[simp] theorem O1:bF Tryz.prog 207=some 1:=du Oj rfl
@[simp] theorem Sw:dO Tryz.prog 207=0:=by kernel_rfl
@[simp] theorem RA:c8 Tryz.prog 207 1=0:=by kernel_rfl
theorem Ol:(Tryz.prog).info? 216=some Tryz.t216:=bw Tryz.typeInfo216
@[simp] theorem DI:bF Tryz.prog 216=some 1:=du Ol rfl
@[simp] theorem Sx:dO Tryz.prog 216=0:=by kernel_rfl
@[simp] theorem RB:c8 Tryz.prog 216 1=0:=by kernel_rfl
theorem Le:(Tryz.prog).info? 221=some Tryz.t221:=bw Tryz.typeInfo221
@[simp] theorem So:bF Tryz.prog 221=some 1:=du Le rfl
@[simp] theorem Sy:dO Tryz.prog 221=0:=by kernel_rfl
@[simp] theorem RC:c8 Tryz.prog 221 1=0:=by kernel_rfl
theorem G3:(Tryz.prog).info? 224=some Tryz.t224:=bw Tryz.typeInfo224
@[simp] theorem IA:bF Tryz.prog 224=some 34:=du G3 rfl
@[simp] theorem NX:bytesOf Tryz.prog 224=some 48:=ot G3 rfl
@[simp] theorem SA:dO Tryz.prog 224=0:=by kernel_rfl
theorem Lf:(Tryz.prog).info? 228=some Tryz.t228:=bw Tryz.typeInfo228
@[simp] theorem Sp:bF Tryz.prog 228=some 8:=du Lf rfl
@[simp] theorem SB:dO Tryz.prog 228=0:=by kernel_rfl
theorem Om:(Tryz.prog).info? 280=some Tryz.t280:=bw Tryz.typeInfo280
@[simp] theorem O2:bF Tryz.prog 280=some 1:=du Om rfl
@[simp] theorem SC:dO Tryz.prog 280=0:=by kernel_rfl
@[simp] theorem RD:c8 Tryz.prog 280 1=0:=by kernel_rfl
theorem G4:(Tryz.prog).info? 282=some Tryz.t282:=bw Tryz.typeInfo282
@[simp] theorem ss:bF Tryz.prog 282=some 3:=du G4 rfl
@[simp] theorem tn:bytesOf Tryz.prog 282=some 48:=ot G4 rfl
@[simp] theorem SD:dO Tryz.prog 282=0:=by kernel_rfl
theorem Lg:(Tryz.prog).info? 289=some Tryz.t289:=bw Tryz.typeInfo289
@[simp] theorem Sq:bF Tryz.prog 289=some 64:=du Lg rfl
@[simp] theorem SE:dO Tryz.prog 289=0:=by kernel_rfl
theorem Lh:(Tryz.prog).info? 382=some Tryz.t382:=bw Tryz.typeInfo382
@[simp] theorem Sr:bF Tryz.prog 382=some 2:=du Lh rfl
@[simp] theorem SF:dO Tryz.prog 382=1:=by kernel_rfl
theorem Oq:(Tryz.prog).info? 407=some Tryz.t407:=bw Tryz.typeInfo407
@[simp] theorem SG:dO Tryz.prog 407=0:=by kernel_rfl
@[simp] theorem Uc:bb Tryz.prog 3=some false:=dy Tryz.underlying3 rfl
@[simp] theorem Ur:aQ Tryz.prog 3=some (.int .i64 0):=by rw [aQ,RW];kernel_rfl
@[simp] theorem Ud:bb Tryz.prog 4=some false:=dy Tryz.underlying4 rfl
@[simp] theorem Ut:aQ Tryz.prog 4=some (.bool false):=by rw [aQ,RX];kernel_rfl
@[simp] theorem Ue:bb Tryz.prog 5=some false:=dy Tryz.underlying5 rfl
@[simp] theorem Uu:aQ Tryz.prog 5=some (.int .u8 0):=by rw [aQ,QM];kernel_rfl
@[simp] theorem Uf:bb Tryz.prog 9=some false:=dy Tryz.underlying9 rfl
@[simp] theorem Ul (H:ag) (l:List UInt8):fc Tryz.prog H 9 (.str l)=some (.int .i64 l.length):=JM Tryz.underlying9 H l
@[simp] theorem Uk (l:List UInt8) (ix:AV):lf Tryz.prog 9 (.str l) ix=(ii ix l.length).bind fun i=>(l[i]?).map fun b=>.int .u8 b.toNat:=Mp Tryz.underlying9 l ix
@[simp] theorem RY (H:ag) (r:List (List AV)) (x:Bool):fc Tryz.prog H 22 (.lst r x)=some (.int .i64 r.length):=fQ Tryz.underlying22 H r x
@[simp] theorem SM:bb Tryz.prog 23=some false:=dy Tryz.underlying23 rfl
@[simp] theorem RZ (H:ag) (r:List (List AV)) (x:Bool):fc Tryz.prog H 23 (.lst r x)=some (.int .i64 r.length):=fQ Tryz.underlying23 H r x
@[simp] theorem R0 (H:ag) (k:SK) (r:List (List AV)):fc Tryz.prog H 23 (aw k r).denil=some (.int .i64 r.length):=gv Tryz.underlying23 H k r
@[simp] theorem RG (k:SK) (r:List (List AV)) (ix:AV):aY Tryz.prog 23 (aw k r) ix=(ii ix r.length).bind fun i=>(r[i]?).bind fun row=>if row.length=37 then some (.eptr row) else none:=iQ Tryz.underlying23 ML k r ix
@[simp] theorem SN:bb Tryz.prog 25=some true:=dy Tryz.underlying25 rfl
@[simp] theorem Q4:Program.underlying Tryz.prog 25=some (.array 32 5):=Tryz.underlying25
@[simp] theorem Ra:aQ Tryz.prog 25=some (.agg (dig aP)):=by rw [aQ,Mg];kernel_rfl
@[simp] theorem Tu (x ix:AV):aY Tryz.prog 25 x ix=(ii ix 32).bind fun i=>bp x (i*1):=lg Tryz.underlying25 NM x ix
@[simp] theorem S9 (ps:List (Nat×AV)):ed Tryz.prog 25 ps=(aE (fun i=>some (i*1,1)) (dig aP) ps).map .agg:=A5 Ra Tryz.underlying25 NM ps
@[simp] theorem SO:bb Tryz.prog 27=some true:=dy Tryz.underlying27 rfl
@[simp] theorem Rb:aQ Tryz.prog 27=some (.agg (aO.cells)):=by rw [aQ,Mh];kernel_rfl
@[simp] theorem Qa (x:AV):bD Tryz.prog 27 x 0=bp x 0:=cS (k:=0) (ft:=25) (off:=0) (n:=31) Tryz.underlying27 rfl rfl nN rfl x
@[simp] theorem Qb (x:AV):bD Tryz.prog 27 x 1=bp x 32:=cS (k:=1) (ft:=3) (off:=32) (n:=0) Tryz.underlying27 rfl rfl KG rfl x
@[simp] theorem Ta (ps:List (Nat×AV)):ed Tryz.prog 27 ps=(aE (fun i=>([(0,32),(32,1)]:List (Nat×Nat))[i]?) (aO.cells) ps).map .agg:=oq [(0,32),(32,1)] Rb Tryz.underlying27 (by simp) ps
@[simp] theorem SP:bb Tryz.prog 30=some false:=dy Tryz.underlying30 rfl
@[simp] theorem T4:aQ Tryz.prog 30=some (.nils):=by rw [aQ,On];kernel_rfl
@[simp] theorem R1 (H:ag) (r:List (List AV)) (x:Bool):fc Tryz.prog H 30 (.lst r x)=some (.int .i64 r.length):=fQ Tryz.underlying30 H r x
@[simp] theorem R3 (H:ag) (k:SK) (r:List (List AV)):fc Tryz.prog H 30 (aw k r).denil=some (.int .i64 r.length):=gv Tryz.underlying30 H k r
@[simp] theorem R2 (H:ag) (b g s l n:Nat):fc Tryz.prog H 30 (.sl b g s l n)=some (.int .i64 n):=mq Tryz.underlying30 H b g s l n
@[simp] theorem RJ (k:SK) (r:List (List AV)) (ix:AV):aY Tryz.prog 30 (aw k r) ix=(ii ix r.length).bind fun i=>(r[i]?).bind fun row=>if row.length=32 then some (.eptr row) else none:=iQ Tryz.underlying30 nN k r ix
@[simp] theorem RI (b g s l m:Nat) (ix:AV):aY Tryz.prog 30 (.sl b g s l m) ix=if 32=s then (ii ix m).map fun i=>.ptr b g s (l+i) 0 else none:=uh Tryz.underlying30 nN b g s l m ix
@[simp] theorem SQ:bb Tryz.prog 35=some false:=dy Tryz.underlying35 rfl
@[simp] theorem T5:aQ Tryz.prog 35=some (.nils):=by rw [aQ,Oo];kernel_rfl
@[simp] theorem R4 (H:ag) (k:SK) (r:List (List AV)):fc Tryz.prog H 35 (aw k r).denil=some (.int .i64 r.length):=gv Tryz.underlying35 H k r
@[simp] theorem RK (k:SK) (r:List (List AV)) (ix:AV):aY Tryz.prog 35 (aw k r) ix=(ii ix r.length).bind fun i=>(r[i]?).bind fun row=>if row.length=67 then some (.eptr row) else none:=iQ Tryz.underlying35 O3 k r ix
@[simp] theorem SR:bb Tryz.prog 39=some true:=dy Tryz.underlying39 rfl
@[simp] theorem Rc:aQ Tryz.prog 39=some (.agg (aO.cells++aO.cells++[.str []])):=by rw [aQ,Mi];kernel_rfl
@[simp] theorem Qc (x:AV):bD Tryz.prog 39 x 0=bp x 0:=cS (k:=0) (ft:=27) (off:=0) (n:=32) Tryz.underlying39 rfl rfl jS rfl x
@[simp] theorem P5 (ps:List (Nat×AV)):ed Tryz.prog 39 ps=(aE (fun i=>([(0,33),(33,33),(66,1)]:List (Nat×Nat))[i]?) (aO.cells++aO.cells++[.str []]) ps).map .agg:=oq [(0,33),(33,33),(66,1)] Rc Tryz.underlying39 (by simp) ps
@[simp] theorem SS:bb Tryz.prog 40=some false:=dy Tryz.underlying40 rfl
@[simp] theorem R5 (H:ag) (r:List (List AV)) (x:Bool):fc Tryz.prog H 40 (.lst r x)=some (.int .i64 r.length):=fQ Tryz.underlying40 H r x
@[simp] theorem R7 (H:ag) (k:SK) (r:List (List AV)):fc Tryz.prog H 40 (aw k r).denil=some (.int .i64 r.length):=gv Tryz.underlying40 H k r
@[simp] theorem R6 (H:ag) (b g s l n:Nat):fc Tryz.prog H 40 (.sl b g s l n)=some (.int .i64 n):=mq Tryz.underlying40 H b g s l n
@[simp] theorem RL (k:SK) (r:List (List AV)) (ix:AV):aY Tryz.prog 40 (aw k r) ix=(ii ix r.length).bind fun i=>(r[i]?).bind fun row=>if row.length=35 then some (.eptr row) else none:=iQ Tryz.underlying40 O4 k r ix
@[simp] theorem ST:bb Tryz.prog 41=some false:=dy Tryz.underlying41 rfl
@[simp] theorem R8 (H:ag) (r:List (List AV)) (x:Bool):fc Tryz.prog H 41 (.lst r x)=some (.int .i64 r.length):=fQ Tryz.underlying41 H r x
@[simp] theorem Sa (H:ag) (k:SK) (r:List (List AV)):fc Tryz.prog H 41 (aw k r).denil=some (.int .i64 r.length):=gv Tryz.underlying41 H k r
@[simp] theorem R9 (H:ag) (b g s l n:Nat):fc Tryz.prog H 41 (.sl b g s l n)=some (.int .i64 n):=mq Tryz.underlying41 H b g s l n
@[simp] theorem RN (k:SK) (r:List (List AV)) (ix:AV):aY Tryz.prog 41 (aw k r) ix=(ii ix r.length).bind fun i=>(r[i]?).bind fun row=>if row.length=2 then some (.eptr row) else none:=iQ Tryz.underlying41 CT k r ix
@[simp] theorem RM (b g s l m:Nat) (ix:AV):aY Tryz.prog 41 (.sl b g s l m) ix=if 2=s then (ii ix m).map fun i=>.ptr b g s (l+i) 0 else none:=uh Tryz.underlying41 CT b g s l m ix
@[simp] theorem SU:bb Tryz.prog 43=some true:=dy Tryz.underlying43 rfl
@[simp] theorem Rd:aQ Tryz.prog 43=some (.agg ([.nils,.nils])):=by rw [aQ,Ot];kernel_rfl
@[simp] theorem Qd (x:AV):bD Tryz.prog 43 x 0=bp x 0:=cS (k:=0) (ft:=40) (off:=0) (n:=0) Tryz.underlying43 rfl rfl QY rfl x
@[simp] theorem Qe (x:AV):bD Tryz.prog 43 x 1=bp x 1:=cS (k:=1) (ft:=41) (off:=1) (n:=0) Tryz.underlying43 rfl rfl QZ rfl x
@[simp] theorem Tb (ps:List (Nat×AV)):ed Tryz.prog 43 ps=(aE (fun i=>([(0,1),(1,1)]:List (Nat×Nat))[i]?) ([.nils,.nils]) ps).map .agg:=oq [(0,1),(1,1)] Rd Tryz.underlying43 (by simp) ps
@[simp] theorem SV:bb Tryz.prog 47=some true:=dy Tryz.underlying47 rfl
@[simp] theorem Re:aQ Tryz.prog 47=some (.agg (aO.cells++[.str [],.bool false])):=by rw [aQ,Mj];kernel_rfl
@[simp] theorem Qf (x:AV):bD Tryz.prog 47 x 0=bp x 0:=cS (k:=0) (ft:=27) (off:=0) (n:=32) Tryz.underlying47 rfl rfl jS rfl x
@[simp] theorem Tc (ps:List (Nat×AV)):ed Tryz.prog 47 ps=(aE (fun i=>([(0,33),(33,1),(34,1)]:List (Nat×Nat))[i]?) (aO.cells++[.str [],.bool false]) ps).map .agg:=oq [(0,33),(33,1),(34,1)] Re Tryz.underlying47 (by simp) ps
@[simp] theorem SW:bb Tryz.prog 51=some true:=dy Tryz.underlying51 rfl
@[simp] theorem Rf:aQ Tryz.prog 51=some (.agg ([.int .i64 0,.int .i64 0])):=by rw [aQ,Mk];kernel_rfl
@[simp] theorem Td (ps:List (Nat×AV)):ed Tryz.prog 51 ps=(aE (fun i=>([(0,1),(1,1)]:List (Nat×Nat))[i]?) ([.int .i64 0,.int .i64 0]) ps).map .agg:=oq [(0,1),(1,1)] Rf Tryz.underlying51 (by simp) ps
@[simp] theorem SY:bb Tryz.prog 56=some false:=dy Tryz.underlying56 rfl
@[simp] theorem Sb (H:ag) (k:SK) (r:List (List AV)):fc Tryz.prog H 56 (aw k r).denil=some (.int .i64 r.length):=gv Tryz.underlying56 H k r
@[simp] theorem RO (k:SK) (r:List (List AV)) (ix:AV):aY Tryz.prog 56 (aw k r) ix=(ii ix r.length).bind fun i=>(r[i]?).bind fun row=>if row.length=1 then some (.eptr row) else none:=iQ Tryz.underlying56 Ls k r ix
@[simp] theorem SZ:bb Tryz.prog 57=some false:=dy Tryz.underlying57 rfl
@[simp] theorem T6:aQ Tryz.prog 57=some (.nils):=by rw [aQ,Ou];kernel_rfl
@[simp] theorem Sc (H:ag) (r:List (List AV)) (x:Bool):fc Tryz.prog H 57 (.lst r x)=some (.int .i64 r.length):=fQ Tryz.underlying57 H r x
@[simp] theorem Se (H:ag) (k:SK) (r:List (List AV)):fc Tryz.prog H 57 (aw k r).denil=some (.int .i64 r.length):=gv Tryz.underlying57 H k r
@[simp] theorem Sd (H:ag) (b g s l n:Nat):fc Tryz.prog H 57 (.sl b g s l n)=some (.int .i64 n):=mq Tryz.underlying57 H b g s l n
@[simp] theorem RP (r:List (List AV)) (x:Bool) (ix:AV):aY Tryz.prog 57 (.lst r x) ix=(ii ix r.length).bind fun i=>(r[i]?).bind fun row=>if row.length=33 then some (.eptr row) else none:=rl Tryz.underlying57 jS r x ix
@[simp] theorem RQ (k:SK) (r:List (List AV)) (ix:AV):aY Tryz.prog 57 (aw k r) ix=(ii ix r.length).bind fun i=>(r[i]?).bind fun row=>if row.length=33 then some (.eptr row) else none:=iQ Tryz.underlying57 jS k r ix
@[simp] theorem S0:bb Tryz.prog 59=some true:=dy Tryz.underlying59 rfl
@[simp] theorem T7:aQ Tryz.prog 59=some (.agg ([.int .i64 0]++aO.cells++[.int .i64 0]++aO.cells++[.str [],.int .i64 0,.str []]++aO.cells++aO.cells++[.nils,.nils])):=by rw [aQ,Ov];kernel_rfl
@[simp] theorem Qg (x:AV):bD Tryz.prog 59 x 0=bp x 0:=cS (k:=0) (ft:=3) (off:=0) (n:=0) Tryz.underlying59 rfl rfl KG rfl x
@[simp] theorem Qh (x:AV):bD Tryz.prog 59 x 1=bp x 1:=cS (k:=1) (ft:=27) (off:=1) (n:=32) Tryz.underlying59 rfl rfl jS rfl x
@[simp] theorem Qi (x:AV):bD Tryz.prog 59 x 2=bp x 34:=cS (k:=2) (ft:=3) (off:=34) (n:=0) Tryz.underlying59 rfl rfl KG rfl x
@[simp] theorem Qj (x:AV):bD Tryz.prog 59 x 3=bp x 35:=cS (k:=3) (ft:=27) (off:=35) (n:=32) Tryz.underlying59 rfl rfl jS rfl x
@[simp] theorem Qk (x:AV):bD Tryz.prog 59 x 4=bp x 68:=cS (k:=4) (ft:=9) (off:=68) (n:=0) Tryz.underlying59 rfl rfl Ls rfl x
@[simp] theorem Ql (x:AV):bD Tryz.prog 59 x 5=bp x 69:=cS (k:=5) (ft:=3) (off:=69) (n:=0) Tryz.underlying59 rfl rfl KG rfl x
@[simp] theorem Qm (x:AV):bD Tryz.prog 59 x 6=bp x 70:=cS (k:=6) (ft:=9) (off:=70) (n:=0) Tryz.underlying59 rfl rfl Ls rfl x
@[simp] theorem Qn (x:AV):bD Tryz.prog 59 x 7=bp x 71:=cS (k:=7) (ft:=27) (off:=71) (n:=32) Tryz.underlying59 rfl rfl jS rfl x
@[simp] theorem Qo (x:AV):bD Tryz.prog 59 x 8=bp x 104:=cS (k:=8) (ft:=27) (off:=104) (n:=32) Tryz.underlying59 rfl rfl jS rfl x
@[simp] theorem Qp (x:AV):bD Tryz.prog 59 x 9=bp x 137:=cS (k:=9) (ft:=56) (off:=137) (n:=0) Tryz.underlying59 rfl rfl Q0 rfl x
@[simp] theorem PB (x:AV):bD Tryz.prog 59 x 10=bp x 138:=cS (k:=10) (ft:=57) (off:=138) (n:=0) Tryz.underlying59 rfl rfl O5 rfl x
@[simp] theorem S2:bb Tryz.prog 61=some false:=dy Tryz.underlying61 rfl
@[simp] theorem Sf (H:ag) (k:SK) (r:List (List AV)):fc Tryz.prog H 61 (aw k r).denil=some (.int .i64 r.length):=gv Tryz.underlying61 H k r
@[simp] theorem RR (k:SK) (r:List (List AV)) (ix:AV):aY Tryz.prog 61 (aw k r) ix=(ii ix r.length).bind fun i=>(r[i]?).bind fun row=>if row.length=139 then some (.eptr row) else none:=iQ Tryz.underlying61 Q1 k r ix
@[simp] theorem S3:bb Tryz.prog 63=some true:=dy Tryz.underlying63 rfl
@[simp] theorem Rg:aQ Tryz.prog 63=some (.agg ([.str [],.str [],.int .i64 0,.nils,.nils])):=by rw [aQ,Ow];kernel_rfl
@[simp] theorem Qq (x:AV):bD Tryz.prog 63 x 0=bp x 0:=cS (k:=0) (ft:=9) (off:=0) (n:=0) Tryz.underlying63 rfl rfl Ls rfl x
@[simp] theorem Qr (x:AV):bD Tryz.prog 63 x 1=bp x 1:=cS (k:=1) (ft:=9) (off:=1) (n:=0) Tryz.underlying63 rfl rfl Ls rfl x
@[simp] theorem Qt (x:AV):bD Tryz.prog 63 x 2=bp x 2:=cS (k:=2) (ft:=3) (off:=2) (n:=0) Tryz.underlying63 rfl rfl KG rfl x
@[simp] theorem Qu (x:AV):bD Tryz.prog 63 x 3=bp x 3:=cS (k:=3) (ft:=30) (off:=3) (n:=0) Tryz.underlying63 rfl rfl QX rfl x
@[simp] theorem Qv (x:AV):bD Tryz.prog 63 x 4=bp x 4:=cS (k:=4) (ft:=61) (off:=4) (n:=0) Tryz.underlying63 rfl rfl Q2 rfl x
@[simp] theorem Te (ps:List (Nat×AV)):ed Tryz.prog 63 ps=(aE (fun i=>([(0,1),(1,1),(2,1),(3,1),(4,1)]:List (Nat×Nat))[i]?) ([.str [],.str [],.int .i64 0,.nils,.nils]) ps).map .agg:=oq [(0,1),(1,1),(2,1),(3,1),(4,1)] Rg Tryz.underlying63 (by simp) ps
@[simp] theorem S4:bb Tryz.prog 78=some false:=dy Tryz.underlying78 rfl
@[simp] theorem KK:Program.underlying Tryz.prog 78=some (.map 27 4):=Tryz.underlying78
@[simp] theorem T8:aQ Tryz.prog 78=some (.nilm):=by rw [aQ,Ox];kernel_rfl
@[simp] theorem S5:bb Tryz.prog 83=some true:=dy Tryz.underlying83 rfl
@[simp] theorem Rh:aQ Tryz.prog 83=some (.agg (aO.cells++[.int .i64 0]++aO.cells++[.int .i64 0]++aO.cells++[.str [],.int .i64 0,.str [],.str []]++aO.cells++aO.cells++[.nils])):=by rw [aQ,Ml];kernel_rfl
@[simp] theorem Qw (x:AV):bD Tryz.prog 83 x 0=bp x 0:=cS (k:=0) (ft:=27) (off:=0) (n:=32) Tryz.underlying83 rfl rfl jS rfl x
@[simp] theorem Qx (x:AV):bD Tryz.prog 83 x 1=bp x 33:=cS (k:=1) (ft:=3) (off:=33) (n:=0) Tryz.underlying83 rfl rfl KG rfl x
@[simp] theorem Qy (x:AV):bD Tryz.prog 83 x 2=bp x 34:=cS (k:=2) (ft:=27) (off:=34) (n:=32) Tryz.underlying83 rfl rfl jS rfl x
@[simp] theorem Qz (x:AV):bD Tryz.prog 83 x 3=bp x 67:=cS (k:=3) (ft:=3) (off:=67) (n:=0) Tryz.underlying83 rfl rfl KG rfl x
@[simp] theorem QA (x:AV):bD Tryz.prog 83 x 4=bp x 68:=cS (k:=4) (ft:=27) (off:=68) (n:=32) Tryz.underlying83 rfl rfl jS rfl x
@[simp] theorem QB (x:AV):bD Tryz.prog 83 x 5=bp x 101:=cS (k:=5) (ft:=9) (off:=101) (n:=0) Tryz.underlying83 rfl rfl Ls rfl x
@[simp] theorem QC (x:AV):bD Tryz.prog 83 x 8=bp x 104:=cS (k:=8) (ft:=9) (off:=104) (n:=0) Tryz.underlying83 rfl rfl Ls rfl x
@[simp] theorem QD (x:AV):bD Tryz.prog 83 x 9=bp x 105:=cS (k:=9) (ft:=27) (off:=105) (n:=32) Tryz.underlying83 rfl rfl jS rfl x
@[simp] theorem PC (x:AV):bD Tryz.prog 83 x 10=bp x 138:=cS (k:=10) (ft:=27) (off:=138) (n:=32) Tryz.underlying83 rfl rfl jS rfl x
@[simp] theorem PD (x:AV):bD Tryz.prog 83 x 11=bp x 171:=cS (k:=11) (ft:=57) (off:=171) (n:=0) Tryz.underlying83 rfl rfl O5 rfl x
@[simp] theorem Tf (ps:List (Nat×AV)):ed Tryz.prog 83 ps=(aE (fun i=>([(0,33),(33,1),(34,33),(67,1),(68,33),(101,1),(102,1),(103,1),(104,1),(105,33),(138,33),(171,1)]:List (Nat×Nat))[i]?) (aO.cells++[.int .i64 0]++aO.cells++[.int .i64 0]++aO.cells++[.str [],.int .i64 0,.str [],.str []]++aO.cells++aO.cells++[.nils]) ps).map .agg:=oq [(0,33),(33,1),(34,33),(67,1),(68,33),(101,1),(102,1),(103,1),(104,1),(105,33),(138,33),(171,1)] Rh Tryz.underlying83 (by simp) ps
@[simp] theorem O7:Program.underlying Tryz.prog 86=some (.map 27 3):=Tryz.underlying86
@[simp] theorem S6:bb Tryz.prog 87=some false:=dy Tryz.underlying87 rfl
@[simp] theorem T9:aQ Tryz.prog 87=some (.nils):=by rw [aQ,Oy];kernel_rfl
@[simp] theorem Sg (H:ag) (r:List (List AV)) (x:Bool):fc Tryz.prog H 87 (.lst r x)=some (.int .i64 r.length):=fQ Tryz.underlying87 H r x
@[simp] theorem Si (H:ag) (k:SK) (r:List (List AV)):fc Tryz.prog H 87 (aw k r).denil=some (.int .i64 r.length):=gv Tryz.underlying87 H k r
@[simp] theorem Sh (H:ag) (b g s l n:Nat):fc Tryz.prog H 87 (.sl b g s l n)=some (.int .i64 n):=mq Tryz.underlying87 H b g s l n
@[simp] theorem RS (r:List (List AV)) (x:Bool) (ix:AV):aY Tryz.prog 87 (.lst r x) ix=(ii ix r.length).bind fun i=>(r[i]?).bind fun row=>if row.length=172 then some (.eptr row) else none:=rl Tryz.underlying87 nO r x ix
@[simp] theorem RU (k:SK) (r:List (List AV)) (ix:AV):aY Tryz.prog 87 (aw k r) ix=(ii ix r.length).bind fun i=>(r[i]?).bind fun row=>if row.length=172 then some (.eptr row) else none:=iQ Tryz.underlying87 nO k r ix
@[simp] theorem RT (b g s l m:Nat) (ix:AV):aY Tryz.prog 87 (.sl b g s l m) ix=if 172=s then (ii ix m).map fun i=>.ptr b g s (l+i) 0 else none:=uh Tryz.underlying87 nO b g s l m ix
@[simp] theorem S7:bb Tryz.prog 94=some false:=dy Tryz.underlying94 rfl
@[simp] theorem MP:Program.underlying Tryz.prog 94=some (.map 25 30):=Tryz.underlying94
@[simp] theorem Ua:aQ Tryz.prog 94=some (.nilm):=by rw [aQ,Oz];kernel_rfl
@[simp] theorem S8:bb Tryz.prog 98=some true:=dy Tryz.underlying98 rfl
@[simp] theorem Ub:aQ Tryz.prog 98=some (.agg (dig aP++[.str [],.str [],.int .i64 0,.nils,.nils])):=by rw [aQ,Mm];kernel_rfl
@[simp] theorem QE (x:AV):bD Tryz.prog 98 x 0=bp x 0:=cS (k:=0) (ft:=25) (off:=0) (n:=31) Tryz.underlying98 rfl rfl nN rfl x
@[simp] theorem QF (x:AV):bD Tryz.prog 98 x 1=bp x 32:=cS (k:=1) (ft:=63) (off:=32) (n:=4) Tryz.underlying98 rfl rfl Q3 rfl x
@[simp] theorem QQ (H:ag) (k:SK) (r:List (List AV)):fc Tryz.prog H 119 (aw k r).denil=some (.int .i64 r.length):=gv Tryz.underlying119 H k r
@[simp] theorem QH (k:SK) (r:List (List AV)) (ix:AV):aY Tryz.prog 119 (aw k r) ix=(ii ix r.length).bind fun i=>(r[i]?).bind fun row=>if row.length=1 then some (.eptr row) else none:=iQ Tryz.underlying119 KG k r ix
@[simp] theorem Ri:bb Tryz.prog 149=some false:=dy Tryz.underlying149 rfl
@[simp] theorem Lt:Program.underlying Tryz.prog 149=some (.map 25 4):=Tryz.underlying149
@[simp] theorem SH:aQ Tryz.prog 149=some (.nilm):=by rw [aQ,Lc];kernel_rfl
@[simp] theorem Rj:bb Tryz.prog 203=some false:=dy Tryz.underlying203 rfl
@[simp] theorem IL:Program.underlying Tryz.prog 203=some (.map 27 57):=Tryz.underlying203
@[simp] theorem SI:aQ Tryz.prog 203=some (.nilm):=by rw [aQ,Ld];kernel_rfl
@[simp] theorem Rk:bb Tryz.prog 207=some false:=dy Tryz.underlying207 rfl
@[simp] theorem QR (H:ag) (b g s l n:Nat):fc Tryz.prog H 207 (.sl b g s l n)=some (.int .i64 n):=mq Tryz.underlying207 H b g s l n
@[simp] theorem QI (b g s l m:Nat) (ix:AV):aY Tryz.prog 207 (.sl b g s l m) ix=if 1=s then (ii ix m).map fun i=>.ptr b g s (l+i) 0 else none:=uh Tryz.underlying207 NM b g s l m ix
@[simp] theorem Rl:bb Tryz.prog 216=some false:=dy Tryz.underlying216 rfl
@[simp] theorem Rm:bb Tryz.prog 221=some false:=dy Tryz.underlying221 rfl
@[simp] theorem SJ:aQ Tryz.prog 221=some (.nils):=by rw [aQ,Le];kernel_rfl
@[simp] theorem Rn:bb Tryz.prog 224=some true:=dy Tryz.underlying224 rfl
@[simp] theorem Pc:aQ Tryz.prog 224=some (.agg (aO.cells++[.nilf])):=by rw [aQ,G3];kernel_rfl
@[simp] theorem Pt (x:AV):bD Tryz.prog 224 x 0=bp x 0:=cS (k:=0) (ft:=27) (off:=0) (n:=32) Tryz.underlying224 rfl rfl jS rfl x
@[simp] theorem Pu (x:AV):bD Tryz.prog 224 x 1=bp x 33:=cS (k:=1) (ft:=135) (off:=33) (n:=0) Tryz.underlying224 rfl rfl O0 rfl x
@[simp] theorem Rt (ps:List (Nat×AV)):ed Tryz.prog 224 ps=(aE (fun i=>([(0,33),(33,1)]:List (Nat×Nat))[i]?) (aO.cells++[.nilf]) ps).map .agg:=oq [(0,33),(33,1)] Pc Tryz.underlying224 (by simp) ps
@[simp] theorem Ro:bb Tryz.prog 228=some true:=dy Tryz.underlying228 rfl
@[simp] theorem Pd:aQ Tryz.prog 228=some (.agg (List.replicate 8 (.int .u32 0))):=by rw [aQ,Lf];kernel_rfl
@[simp] theorem RF (x ix:AV):aY Tryz.prog 228 x ix=(ii ix 8).bind fun i=>bp x (i*1):=lg Tryz.underlying228 DI x ix
@[simp] theorem Ru (ps:List (Nat×AV)):ed Tryz.prog 228 ps=(aE (fun i=>some (i*1,1)) (List.replicate 8 (.int .u32 0)) ps).map .agg:=A5 Pd Tryz.underlying228 DI ps
@[simp] theorem Rp:bb Tryz.prog 280=some false:=dy Tryz.underlying280 rfl
@[simp] theorem QS (H:ag) (k:SK) (r:List (List AV)):fc Tryz.prog H 280 (aw k r).denil=some (.int .i64 r.length):=gv Tryz.underlying280 H k r
@[simp] theorem QJ (k:SK) (r:List (List AV)) (ix:AV):aY Tryz.prog 280 (aw k r) ix=(ii ix r.length).bind fun i=>(r[i]?).bind fun row=>if row.length=3 then some (.eptr row) else none:=iQ Tryz.underlying280 ss k r ix
@[simp] theorem Rq:bb Tryz.prog 282=some true:=dy Tryz.underlying282 rfl
@[simp] theorem Pe:aQ Tryz.prog 282=some (.agg ([.bool false,.str [],.nils])):=by rw [aQ,G4];kernel_rfl
@[simp] theorem Pv (x:AV):bD Tryz.prog 282 x 0=bp x 0:=cS (k:=0) (ft:=4) (off:=0) (n:=0) Tryz.underlying282 rfl rfl Ss rfl x
@[simp] theorem Pw (x:AV):bD Tryz.prog 282 x 1=bp x 1:=cS (k:=1) (ft:=9) (off:=1) (n:=0) Tryz.underlying282 rfl rfl Ls rfl x
@[simp] theorem Px (x:AV):bD Tryz.prog 282 x 2=bp x 2:=cS (k:=2) (ft:=280) (off:=2) (n:=0) Tryz.underlying282 rfl rfl O2 rfl x
@[simp] theorem Rv (ps:List (Nat×AV)):ed Tryz.prog 282 ps=(aE (fun i=>([(0,1),(1,1),(2,1)]:List (Nat×Nat))[i]?) ([.bool false,.str [],.nils]) ps).map .agg:=oq [(0,1),(1,1),(2,1)] Pe Tryz.underlying282 (by simp) ps
@[simp] theorem Rr:bb Tryz.prog 289=some true:=dy Tryz.underlying289 rfl
@[simp] theorem Pf:aQ Tryz.prog 289=some (.agg (List.replicate 64 (.int .u32 0))):=by rw [aQ,Lg];kernel_rfl
@[simp] theorem RH (x ix:AV):aY Tryz.prog 289 x ix=(ii ix 64).bind fun i=>bp x (i*1):=lg Tryz.underlying289 DI x ix
@[simp] theorem Rw (ps:List (Nat×AV)):ed Tryz.prog 289 ps=(aE (fun i=>some (i*1,1)) (List.replicate 64 (.int .u32 0)) ps).map .agg:=A5 Pf Tryz.underlying289 DI ps
@[simp] theorem SL:aQ Tryz.prog 382=some (.agg ([.nilp,.nils])):=by rw [aQ,Lh];kernel_rfl
@[simp] theorem Py (x:AV):bD Tryz.prog 382 x 1=bp x 1:=cS (k:=1) (ft:=207) (off:=1) (n:=0) Tryz.underlying382 rfl rfl O1 rfl x
@[simp] theorem Pg:aQ Tryz.prog 407=some (.agg ([.int .i64 0,.bool false])):=by rw [aQ,Oq];kernel_rfl
@[simp] theorem Pz (x:AV):bD Tryz.prog 407 x 0=bp x 0:=cS (k:=0) (ft:=3) (off:=0) (n:=0) Tryz.underlying407 rfl rfl KG rfl x
@[simp] theorem PA (x:AV):bD Tryz.prog 407 x 1=bp x 1:=cS (k:=1) (ft:=4) (off:=1) (n:=0) Tryz.underlying407 rfl rfl Ss rfl x
@[simp] theorem Rx (ps:List (Nat×AV)):ed Tryz.prog 407 ps=(aE (fun i=>([(0,1),(1,1)]:List (Nat×Nat))[i]?) ([.int .i64 0,.bool false]) ps).map .agg:=oq [(0,1),(1,1)] Pg Tryz.underlying407 (by simp) ps
end Go.Proofs.Ev
namespace Go.Proofs.Ev
open Go.Proofs
variable {C:bG}
def bZ:List Nat→List Nat→Int
 | a::l,b::m=>if a<b then -1 else if b<a then 1 else bZ l m
 | _,_=>0
theorem Eb {a b:List Nat} {k:Nat} (ha:k<a.length) (hb:k<b.length):bZ (a.drop k) (b.drop k)=if a[k]<b[k] then -1 else if b[k]<a[k] then 1 else bZ (a.drop (k+1)) (b.drop (k+1)):=by
 rw [List.drop_eq_getElem_cons ha,List.drop_eq_getElem_cons hb];rfl
theorem nG (hp:C.prim 34=none) (hq:C.pure 34=true) (a b:List Nat) (ha:a.length=32) (hb:b.length=32):cE Tryz.prog C 34 [] [.agg (dig a),.agg (dig b)] (.int .i64 (bZ a b)):=by
 refine aB hq fun H=>am Tryz.func34 rfl hp (by simp) (by kernel_rfl) ?_
 unfold Tryz.f34
 simp [aG,ha,hb]
 refine cn (fun s H'=>H'=H++[.rows 32 0 [dig a],.rows 32 0 [dig b]]∧s 2=.ptr H.length 0 32 0 0∧s 3=.ptr (H.length+1) 0 32 0 0∧s 4=.int .i64 0∧∃k:Nat,s 5=.int .i64 k∧k≤32∧bZ a b=bZ (a.drop k) (b.drop k)) (fun s _=>32-(match s 5 with | .int _ k=>k.toNat | _=>0)) ?_ ?_
 ·simp
  exact ⟨0,by simp⟩
 rintro s H' ⟨rfl,h2,h3,h4,k,h5,hk,hc⟩
 simp [h2,h3,h4,h5,-ii]
 refine ⟨fun h=>?_,fun h=>?_⟩
 ·have h:k<32:=by omega
  have e1:=Dd (l:=a) (k:=k) (by omega)
  have e2:=Dd (l:=b) (k:=k) (by omega)
  rw [Eb (by omega) (by omega)] at hc
  simp [sU,h,h2,h3,h4,h5,ha,hb,e1,e2,-ii,-List.head?_drop]
  rw [ay h (by decide)]
  refine ⟨fun h1=>by rw [hc,if_pos h1],fun h1=>⟨fun h2=>by rw [hc,if_neg (by omega),if_pos h2],fun h2=>⟨⟨k+1,rfl,by omega,by rw [hc,if_neg (by omega),if_neg (by omega)]⟩,by rw [Int.toNat_natCast];exact Nat.sub_lt_sub_left h (Nat.lt_succ_self k)⟩⟩⟩
 ·have h:k=32:=by omega
  subst h
  rw [hc,List.drop_eq_nil_of_le (by omega)];rfl
end Go.Proofs.Ev
namespace Go.Proofs.Ev
open Go.Proofs
structure aA (C:bG):Prop where
 prim:∀f,f∉[155,338,392,109,324,91,26,166,68,228,245,122,125,5]→C.prim f=none
 pure:∀f,f∈[193,76,34,315,316,134,317,15,208,209,137,321,370,210]→C.pure f=true
 kDig:C.kinds 25=some (List.replicate 32 (.int .u8))
 kId:C.kinds 27=some (List.replicate 32 (.int .u8)++[.int .i64])
variable {C:bG}
theorem rg (S:aA C) (a b:List Nat) (ha:a.length=32) (hb:b.length=32):bU Tryz.prog C .eql 25 (.agg (dig a)) (.agg (dig b))=some (.bool (decide (a=b))):=by
 have h1:=gq a;rw [ha] at h1
 have h2:=gq b;rw [hb] at h2
 simp only [bU,pI,S.kDig,h1,h2,Bool.and_self,if_true,jy a b (by omega)];rfl
theorem zj (S:aA C) (a b:aI):bU Tryz.prog C .eql 27 (.agg a.cells) (.agg b.cells)=some (.bool (decide (a.d=b.d)&&a.n==b.n)):=by
 have h1:=gq a.d;rw [a.h] at h1
 have h2:=gq b.d;rw [b.h] at h2
 have key:∀x:aI,dq (List.replicate 32 (.int .u8)++[.int .i64]) x.cells=true:=by
  intro x
  have h1:=gq x.d;rw [x.h] at h1
  have K8:∀(l:List LK) (m:List AV),dq l m=true→dq (l++[.int .i64]) (m++[.int .i64 x.n])=true:=by
   intro l
   induction l with
   | nil=>intro m h;cases m with
    | nil=>rfl
    | cons a m=>simp [dq] at h
   | cons k l ih=>intro m h;cases m with
    | nil=>simp [dq] at h
    | cons a m=>simp only [List.cons_append,dq,Bool.and_eq_true] at h ⊢;exact ⟨h.1,ih m h.2⟩
  exact K8 _ _ h1
 have ce:bP a.cells b.cells=(decide (a.d=b.d)&&a.n==b.n):=by
  simp only [aI.cells,iL (show (dig a.d).length=(dig b.d).length by simp [a.h,b.h]),jy a.d b.d (by rw [a.h,b.h]),bP,mc,Bool.and_true]
 simp only [bU,pI,S.kId,key,Bool.and_self,if_true,ce];rfl
def bC (a:List Nat):Bool:=decide (a=aP)
theorem kD (S:aA C) (a:List Nat) (ha:a.length=32):cE Tryz.prog C 76 [] [.agg (dig a)] (.bool (bC a)):=by
 refine aB (S.pure _ (by decide)) fun H=>am Tryz.func76 rfl (S.prim _ (by decide)) (by simp) (by kernel_rfl) ?_
 unfold Tryz.f76
 have e:=rg S a aP ha (by decide)
 simp [aG,ha,List.take_of_length_le,aE,e,bC]
def dA (a b:aI):Int:=if bZ a.d b.d=0 then (if a.n<b.n then -1 else if b.n<a.n then 1 else 0) else bZ a.d b.d
theorem Am (S:aA C) (a b:aI):cE Tryz.prog C 321 [] [.agg a.cells,.agg b.cells] (.int .i64 (dA a b)):=by
 refine aB (S.pure _ (by decide)) fun H=>am Tryz.func321 rfl (S.prim _ (by decide)) (by simp) (by kernel_rfl) ?_
 unfold Tryz.f321
 have e:=(nG (S.prim _ (by decide)) (S.pure _ (by decide)) a.d b.d a.h b.h).eq
 simp [aG,e,dA]
 grind
def nI:aI:=⟨aP,-1,by decide,by decide⟩
theorem At (S:aA C):cE Tryz.prog C 15 [] [] (.agg nI.cells):=by
 refine aB (S.pure _ (by decide)) fun H=>am Tryz.func15 rfl (S.prim _ (by decide)) (by simp) (by kernel_rfl) ?_
 unfold Tryz.f15
 have e:Ev.dig aO.d++[AV.int .i64 (-1)]=nI.cells:=rfl
 simp [aG,ao,aE,aO.h,e]
 simp [aq,AV.closed,←e,cZ,gk,AV.closeds]
def pP (x:aI) (first:Int):Bool:=if bC x.d then decide (0≤x.n)&&decide (x.n<first) else decide (0≤x.n)&&decide (x.n<100000)
theorem Ak (S:aA C) (x:aI) (n:Int):cE Tryz.prog C 370 [] [.agg x.cells,.int .i64 n] (.bool (pP x n)):=by
 refine aB (S.pure _ (by decide)) fun H=>am Tryz.func370 rfl (S.prim _ (by decide)) (by simp) (by kernel_rfl) ?_
 unfold Tryz.f370
 have e:=(kD S x.d x.h).eq
 simp +contextual [-Bool.not_and,-Bool.not_or,aG,e,an,pP]
def sx (k:Int):Int:=if k=7 then 0 else k
theorem H8 (S:aA C) (k:Int):cE Tryz.prog C 210 [] [.int .i64 k] (.int .i64 (sx k)):=by
 refine aB (S.pure _ (by decide)) fun H=>am Tryz.func210 rfl (S.prim _ (by decide)) (by simp) (by kernel_rfl) ?_
 unfold Tryz.f210
 simp +contextual [aG,sx]
def lS (k:Int):Bool:=k==5||k==6
theorem Au (S:aA C) (k:Int):cE Tryz.prog C 208 [] [.int .i64 k] (.bool (lS k)):=by
 refine aB (S.pure _ (by decide)) fun H=>am Tryz.func208 rfl (S.prim _ (by decide)) (by simp) (by kernel_rfl) ?_
 unfold Tryz.f208
 simp +contextual [-Bool.not_and,-Bool.not_or,aG,an,lS]
def jX (k:Int) (x:aH):Bool:=if x.kind=1 then (if lS k then x.type==1 else k != 4||x.type==2||x.type==3) else false
theorem qz (S:aA C) (k:Int) (x:aH):cE Tryz.prog C 134 [] [.int .i64 k,.agg x.cells] (.bool (jX k x)):=by
 refine aB (S.pure _ (by decide)) fun H=>am Tryz.func134 rfl (S.prim _ (by decide)) (by simp) (by kernel_rfl) ?_
 unfold Tryz.f134
 have e:=(Au S k).eq
 simp +contextual [-Bool.not_and,-Bool.not_or,aG,an,e,jX]
def aF (a b:aI):Bool:=decide (a.d=b.d)&&a.n==b.n
def ng (f:aI) (x:aH):Bool:=x.kind==5&&aF x.file f
theorem sq (S:aA C) (f:aI) (x:aH):cE Tryz.prog C 209 [] [.agg f.cells,.agg x.cells] (.bool (ng f x)):=by
 refine aB (S.pure _ (by decide)) fun H=>am Tryz.func209 rfl (S.prim _ (by decide)) (by simp) (by kernel_rfl) ?_
 unfold Tryz.f209
 have e:=zj S
 simp +contextual [-Bool.not_and,-Bool.not_or,aG,an,e,ng,aF]
def dI (k:Int) (f:aI) (x:aH):Bool:=sx k==0||(x.kind==sx k&&aF x.file f)
theorem qA (S:aA C) (k:Int) (f:aI) (x:aH):cE Tryz.prog C 137 [] [.int .i64 k,.agg f.cells,.agg x.cells] (.bool (dI k f x)):=by
 refine aB (S.pure _ (by decide)) fun H=>am Tryz.func137 rfl (S.prim _ (by decide)) (by simp) (by kernel_rfl) ?_
 unfold Tryz.f137
 have e:=zj S
 have e2:=(H8 S k).eq
 cases hw:(sx k==0) with
 | true=>simp +contextual [-Bool.not_and,-Bool.not_or,aG,an,e,e2,dI,aF,hw]
 | false=>simp +contextual [-Bool.not_and,-Bool.not_or,aG,an,e,e2,dI,aF,hw]
def kn (own:List aH) (x:aI):aH:=if bC x.d&&decide (0≤x.n)&&decide (x.n<own.length) then own.getD x.n.toNat b9 else b9
theorem Kv (S:aA C) (own:List aH) (k:SK) (x:aI):cE Tryz.prog C 317 [] [aw k (own.map aH.cells),.agg x.cells] (.agg (kn own x).cells):=by
 refine aB (S.pure _ (by decide)) fun H=>am Tryz.func317 rfl (S.prim _ (by decide)) (by simp) (by kernel_rfl) ?_
 unfold Tryz.f317
 have e:=(kD S x.d x.h).eq
 cases hx:(bC x.d&&decide (0≤x.n)&&decide (x.n<(own.length:Int))) with
 | true =>
  have hx2:=hx
  simp only [Bool.and_eq_true,decide_eq_true_eq] at hx2
  have hlt:x.n.toNat<own.length:=by omega
  simp [-Bool.not_and,-Bool.not_or,aG,an,e,ao,hx2,hlt,kn,aq,AV.closed]
 | false =>
  simp +contextual [-Bool.not_and,-Bool.not_or,aG,an,e,ao,aE,hx,kn,aq,AV.closed]
def rv (x:aI) (n:Int) (fits:Bool):Int:=if pP x n then (if bC x.d&&!fits then 8 else 0) else 7
theorem Ky (S:aA C) (own:List aH) (k:SK) (x:aI) (fits:Bool):cE Tryz.prog C 316 [] [.agg x.cells,aw k (own.map aH.cells),.bool fits] (.int .i64 (rv x own.length fits)):=by
 refine aB (S.pure _ (by decide)) fun H=>am Tryz.func316 rfl (S.prim _ (by decide)) (by simp) (by kernel_rfl) ?_
 unfold Tryz.f316
 have e:=(kD S x.d x.h).eq
 have e2:=(Ak S x own.length).eq
 simp +contextual [-Bool.not_and,-Bool.not_or,aG,an,e,e2,rv]
end Go.Proofs.Ev
namespace Go.Proofs.Ev
open Go.Proofs
variable {P:Program} {C:bG}
def oC (c:UInt8):Bool:=(decide (97≤(c.toNat:Int))&&decide ((c.toNat:Int)≤122))||(decide (65≤(c.toNat:Int))&&decide ((c.toNat:Int)≤90))||(decide (48≤(c.toNat:Int))&&decide ((c.toNat:Int)≤57))||(c.toNat:Int)==46||(c.toNat:Int)==95||(c.toNat:Int)==45
def qt (s:List UInt8):Bool:=s.all oC&&(decide (1≤(s.length:Int))&&decide ((s.length:Int)≤40)&&!s==[46]&&!s==[46,46])
theorem yz {p:UInt8→Bool} {l:List UInt8} {k:Nat} (h:k<l.length):(l.take (k+1)).all p=((l.take k).all p&&p l[k]):=by
 rw [List.take_succ_eq_append_getElem h,List.all_append];simp
theorem C2 {p:UInt8→Bool} {l:List UInt8} {k:Nat} (h:k<l.length) (hp:p l[k]=false):l.all p=false:=by
 rw [List.all_eq_false];exact ⟨l[k],List.getElem_mem h,by simp [hp]⟩
theorem Aq (hp:C.prim 193=none) (hq:C.pure 193=true) (l:List UInt8) (hl:l.length≤2^40):cE Tryz.prog C 193 [] [.str l] (.bool (qt l)):=by
 refine aB hq fun H=>am Tryz.func193 rfl hp (by simp) (by kernel_rfl) ?_
 unfold Tryz.f193
 simp [aG]
 refine cn (fun s H'=>H'=H∧s 0=.str l∧∃k:Nat,s 3=.int .i64 k∧k≤l.length∧(l.take k).all oC=true) (fun s _=>l.length-(match s 3 with | .int _ k=>k.toNat | _=>0)) ?_ ?_
 ·exact ⟨rfl,rfl,0,rfl,by simp⟩
 rintro s H' ⟨rfl,h0,k,h3,hk,hc⟩
 simp [h0,h3,-ii]
 refine ⟨fun h=>?_,fun h=>?_⟩
 ·have e1:=yz (p:=oC) h
  rw [hc,Bool.true_and] at e1
  have e2:oC l[k]=false→qt l=false:=fun h2=>by simp [qt,C2 h h2]
  simp +contextual [-Bool.not_and,-Bool.not_or,-ii,sU,h,an,h0,h3,ay h (by omega)]
  cases hn:oC l[k] with
  | true =>
   rw [hn] at e1
   simp only [oC,Bool.or_eq_true,Bool.and_eq_true,decide_eq_true_eq,beq_iff_eq] at hn
   exact ⟨fun _=>⟨⟨k+1,by simp,by omega,by simpa using e1⟩,Nat.sub_lt_sub_left h (Nat.lt_succ_self k)⟩,fun a b c d e f=>by
    rcases hn with ((((⟨x,y⟩ | ⟨x,y⟩) | ⟨x,y⟩) | x) | x) | x<;>first | omega | (have:=a x;omega) | (have:=b x;omega) | (have:=c x;omega)⟩
  | false =>
   refine ⟨fun a=>absurd hn ?_,fun _ _ _ _ _ _=>e2 hn⟩
   simp only [oC,Bool.not_eq_false,Bool.or_eq_true,Bool.and_eq_true,decide_eq_true_eq,beq_iff_eq]
   exact a
 ·have h:k=l.length:=by omega
  subst h
  rw [List.take_length] at hc
  simp +contextual [-Bool.not_and,-Bool.not_or,h0,an]
  simp only [qt,hc,Bool.true_and]
end Go.Proofs.Ev
namespace Go.Proofs.Ev
open Go.Proofs
variable {C:bG}
structure dP (C:bG):Prop extends aA C where
 pure2:∀f,f∈[368,313,312,259,314,369,390]→C.pure f=true
 frz2:∀f,f∈[260]→C.pure f=false∧C.frz f=true
theorem Ar (S:dP C):cE Tryz.prog C 368 [] [] (.agg aO.cells):=by
 refine aB (S.pure2 _ (by decide)) fun H=>am Tryz.func368 rfl (S.prim _ (by decide)) (by simp) (by kernel_rfl) ?_
 unfold Tryz.f368
 simp [aG,ao,aE,aq,AV.closed]
def oH (c:aW):aW:=if 2≤c.kind∧c.kind≤6 then { c with file:=aO } else c
def oI (c:aW):aW:=if c.kind≠1∧c.kind≠5 then { c with over:=[],overK:=.nil } else c
def oJ (c:aW):aW :=
 if c.kind=1 then { c with type:=0 } else if c.kind=2 then { c with parent:=aO,name:=[] } else if c.kind=3 then { c with mode:=0 }
 else if c.kind=4 then { c with data:=[] } else if c.kind=5 then { c with after:=aO,before:=aO,lines:=[],linesK:=.nil }
 else if c.kind=6 then { c with after:=aO,before:=aO } else c
def kz (c:aW):aW:=oJ (oI (oH c))
theorem HZ (S:dP C) (c:aW):cE Tryz.prog C 313 [] [.agg c.cells] (.agg (kz c).cells):=by
 refine aB (S.pure2 _ (by decide)) fun H=>am Tryz.func313 rfl (S.prim _ (by decide)) (by simp) (by kernel_rfl) ?_
 unfold Tryz.f313
 have e:=(Ar S).eq
 have hk:c.kind=1∨c.kind=2∨c.kind=3∨c.kind=4∨c.kind=5∨c.kind=6∨(¬(2≤c.kind∧c.kind≤6)∧c.kind≠1∧c.kind≠2∧c.kind≠3∧c.kind≠4∧c.kind≠5∧c.kind≠6):=by omega
 rcases hk with hk | hk | hk | hk | hk | hk | ⟨h0,h1,h2,h3,h4,h5,h6⟩
 ·simp [aG,an,e,ao,aE,kz,oH,oI,oJ,aq,AV.closed,hk]
 ·simp [aG,an,e,ao,aE,kz,oH,oI,oJ,aq,AV.closed,hk]
 ·simp [aG,an,e,ao,aE,kz,oH,oI,oJ,aq,AV.closed,hk]
 ·simp [aG,an,e,ao,aE,kz,oH,oI,oJ,aq,AV.closed,hk]
 ·simp [aG,an,e,ao,aE,kz,oH,oI,oJ,aq,AV.closed,hk]
 ·simp [aG,an,e,ao,aE,kz,oH,oI,oJ,aq,AV.closed,hk]
 ·have h7:(decide (2≤c.kind)&&decide (c.kind≤6))=false:=by simpa using h0
  simp +contextual [-Bool.not_and,-Bool.not_or,aG,an,e,ao,aE,kz,oH,oI,oJ,aq,AV.closed,h0,h1,h2,h3,h4,h5,h6,h7]
def ru (a:aI):Bool:=aF a aO
def pb (c:aW):Bool:=ru c.file&&c.type==0&&ru c.parent&&c.name==[]&&c.mode==0&&c.data==[]&&ru c.after&&ru c.before&&(c.lines.length:Int)==0&&(c.over.length:Int)==0
set_option maxRecDepth 100000 in
set_option maxHeartbeats 2000000 in
theorem Fl (S:dP C) (c:aW):cE Tryz.prog C 312 [] [.agg c.cells] (.bool (pb c)):=by
 refine aB (S.pure2 _ (by decide)) fun H=>am Tryz.func312 rfl (S.prim _ (by decide)) (by simp) (by kernel_rfl) ?_
 unfold Tryz.f312
 have e:=(Ar S).eq
 have e2:=zj S.toaA
 simp +contextual [-Bool.not_and,-Bool.not_or,aG,an,e,e2,pb,ru,aF]
end Go.Proofs.Ev
namespace Go.Proofs.Ev
open Go.Proofs
variable {C:bG}
theorem rI {n k:Nat} (h:k<n):n-(k+1)<n-k:=Nat.sub_lt_sub_left h (Nat.lt_succ_self k)
def JY (a b:Int) (c:UInt8):Bool:=!((c.toNat:Int)==a||(c.toNat:Int)==b)
theorem Fk (S:dP C) (l:List UInt8) (a b:Int) (hl:l.length≤2^40):cE Tryz.prog C 390 [] [.str l,.int .u8 a,.int .u8 b] (.bool (l.all (JY a b))):=by
 refine aB (S.pure2 _ (by decide)) fun H=>am Tryz.func390 rfl (S.prim _ (by decide)) (by simp) (by kernel_rfl) ?_
 unfold Tryz.f390
 simp [aG]
 refine cn (fun s H'=>H'=H∧s 0=.str l∧s 1=.int .u8 a∧s 2=.int .u8 b∧∃k:Nat,s 7=.int .i64 k∧k≤l.length∧(l.take k).all (JY a b)=true) (fun s _=>l.length-(match s 7 with | .int _ k=>k.toNat | _=>0)) ?_ ?_
 ·exact ⟨rfl,rfl,rfl,rfl,0,rfl,by simp⟩
 rintro s H' ⟨rfl,h0,h1,h2,k,h3,hk,hc⟩
 simp [h0,h1,h2,h3]
 refine ⟨fun h=>?_,fun h=>?_⟩
 ·have e1:=yz (p:=JY a b) h
  rw [hc,Bool.true_and] at e1
  have e2:=C2 (p:=JY a b) h
  cases hn:JY a b l[k] with
  | true =>
   rw [hn] at e1
   have hn2:=hn
   simp only [JY,Bool.not_eq_true',Bool.or_eq_false_iff] at hn2
   simp +contextual [-Bool.not_and,-Bool.not_or,-List.all_eq_true,h,an,h0,h1,h2,h3,ay h (by omega),hn2.1,hn2.2]
   exact ⟨⟨k+1,by simp,by omega,by simpa using e1⟩,rI h⟩
  | false =>
   have hn2:=hn
   simp only [JY,Bool.not_eq_false'] at hn2
   rw [e2 hn]
   simp +contextual [-Bool.not_and,-Bool.not_or,-List.all_eq_true,h,an,h0,h1,h2,h3,hn2]
 ·have h:k=l.length:=by omega
  subst h
  rw [List.take_length] at hc
  exact List.all_eq_true.1 hc
def kK (l:List UInt8):Bool:=decide ((l.length:Int)≤1000)&&l.all (JY 10 0)
theorem Fx (S:dP C) (l:List UInt8) (hl:l.length≤2^40):cE Tryz.prog C 369 [] [.str l] (.bool (kK l)):=by
 refine aB (S.pure2 _ (by decide)) fun H=>am Tryz.func369 rfl (S.prim _ (by decide)) (by simp) (by kernel_rfl) ?_
 unfold Tryz.f369
 have e:=(Fk S l 10 0 hl).eq
 simp +contextual [-Bool.not_and,-Bool.not_or,-List.all_eq_true,aG,an,e,kK]
def mr (l:List (List UInt8)):Int:=if l.length=0 then 1 else if 2000<l.length then 4 else if l.all kK then 0 else 3
theorem Fv (S:dP C) (l:List (List UInt8)) (k:SK) (hl:∀x∈l,x.length≤2^40):cE Tryz.prog C 314 [] [aw k (l.map fU)] (.int .i64 (mr l)):=by
 refine aB (S.pure2 _ (by decide)) fun H=>am Tryz.func314 rfl (S.prim _ (by decide)) (by simp) (by kernel_rfl) ?_
 unfold Tryz.f314
 simp [aG]
 refine ⟨fun h=>by simp [mr,h],fun hne=>⟨fun h=>by simp [mr,hne,show 2000<l.length by omega],fun hle=>?_⟩⟩
 have hle:l.length≤2000:=by omega
 refine cn (fun s H'=>H'=H∧s 0=aw k (l.map fU)∧∃k:Nat,s 3=.int .i64 k∧k≤l.length∧(l.take k).all kK=true) (fun s _=>l.length-(match s 3 with | .int _ k=>k.toNat | _=>0)) ?_ ?_
 ·exact ⟨rfl,rfl,0,rfl,by simp⟩
 rintro s H' ⟨rfl,h0,j,h3,hk,hc⟩
 simp [h0,h3]
 refine ⟨fun h=>?_,fun h=>?_⟩
 ·have e:=(Fx S l[j] (hl _ (List.getElem_mem h))).eq
  have hn0:mr l=if l.all kK then 0 else 3:=by simp only [mr,if_neg (show ¬l.length=0 by simpa using hne),if_neg (show ¬2000<l.length by omega)]
  cases hn:kK l[j] with
  | true =>
   have e1:(l.take (j+1)).all kK=true:=by rw [List.take_succ_eq_append_getElem h,List.all_append,hc];simp [hn]
   rw [hn] at e
   simp [-List.all_eq_true,h,h0,h3,fU,e,ay h (by omega)]
   exact ⟨⟨j+1,by simp,by omega,by simpa using e1⟩,rI h⟩
  | false =>
   rw [hn] at e
   have e1:l.all kK=false:=by rw [List.all_eq_false];exact ⟨l[j],List.getElem_mem h,by simp [hn]⟩
   simp [-List.all_eq_true,h,h0,h3,fU,e,hn0,e1]
 ·have h:j=l.length:=by omega
  subst h
  rw [List.take_length] at hc
  simp [mr,hne,hc,show ¬2000<l.length by omega]
def pT:List aI→Bool
 | a::b::l=>decide (dA a b<0)&&pT (b::l)
 | _=>true
theorem Ge {l:List aI} {k:Nat} (hk:k+1<l.length):pT (l.drop k)=(decide (dA l[k] l[k+1]<0)&&pT (l.drop (k+1))):=by
 rw [List.drop_eq_getElem_cons (show k<l.length by omega),List.drop_eq_getElem_cons hk];rfl
theorem Jc {l:List aI} {k:Nat} (hk:l.length≤k+1):pT (l.drop k)=true:=by
 have:(l.drop k).length≤1:=by simp;omega
 generalize l.drop k=m at this
 match m,this with
 | [],_=>rfl
 | [_],_=>rfl
theorem Ks (S:dP C) (l:List aI) (K:SK) (hl:l.length≤2^40):cE Tryz.prog C 315 [] [aw K (l.map aI.cells)] (.bool (pT l)):=by
 refine aB (S.pure _ (by decide)) fun H=>am Tryz.func315 rfl (S.prim _ (by decide)) (by simp) (by kernel_rfl) ?_
 unfold Tryz.f315
 simp [aG]
 refine cn (fun s H'=>H'=H∧s 0=aw K (l.map aI.cells)∧∃k:Nat,s 3=.int .i64 ((k:Int)+1)∧k≤l.length∧pT l=pT (l.drop k)) (fun s _=>l.length+1-(match s 3 with | .int _ k=>k.toNat | _=>0)) ?_ ?_
 ·exact ⟨rfl,rfl,0,rfl,by simp⟩
 rintro s H' ⟨rfl,h0,k,h3,hk,hc⟩
 simp [h0,h3]
 refine ⟨fun hh=>?_,fun h=>?_⟩
 ·have h:k+1<l.length:=by omega
  have e:=(Am S.toaA l[k] l[k+1]).eq
  have w1:IntKind.i64.wrap (k:Int)=(k:Int):=gy (by omega)
  have w2:IntKind.i64.wrap ((k:Int)+1+1)=((k+1:Nat):Int)+1:=by rw [aK (by omega) (by omega)];omega
  have hk0:k<l.length:=by omega
  have t1:((k:Int)+1).toNat=k+1:=by omega
  have t2:(0:Int)≤(k:Int)+1:=by omega
  rw [Ge h] at hc
  simp [h,hh,h0,h3,e,w1,w2,t1,t2,hk0]
  refine ⟨fun h4=>?_,fun h4=>⟨⟨k+1,by simp,by omega,?_⟩,?_⟩⟩
  ·rw [hc];simp;omega
  ·rw [hc];simp [h4]
  ·rw [show ((k:Int)+1+1).toNat=k+2 by omega];omega
 ·rw [Jc (by omega)] at hc
  exact hc
end Go.Proofs.Ev
namespace Go.Proofs.Ev
open Go.Proofs
variable {C:bG}
structure aW.Ok (c:aW):Prop where
 name:c.name.length≤2^40
 data:c.data.length≤2^40
 lines:∀x∈c.lines,x.length≤2^40
 linesN:c.lines.length≤2^40
 overN:c.over.length≤2^40
def gW (c:aW):Int :=
 if (decide (c.kind<1)||decide (7<c.kind))=true then 8
 else if pb (kz c)=false then 1
 else if (c.kind==1&&(decide (c.type<1)||decide (4<c.type)))=true then 8
 else if (c.kind==2&&!qt c.name)=true then 5
 else if (c.kind==3&&(decide (c.mode<0)||decide (511<c.mode)))=true then 2
 else if 65536<(c.data.length:Int) then 4
 else if c.kind=5 then mr c.lines
 else if (c.kind==7&&(c.over.length:Int)==0)=true then 1
 else if 400<(c.over.length:Int) then 4
 else if pT c.over=false then 9 else 0
set_option maxRecDepth 100000 in
set_option maxHeartbeats 2000000 in
theorem CA (S:dP C) (c:aW) (hc:c.Ok):cE Tryz.prog C 259 [] [.agg c.cells] (.int .i64 (gW c)):=by
 refine aB (S.pure2 _ (by decide)) fun H=>am Tryz.func259 rfl (S.prim _ (by decide)) (by simp) (by kernel_rfl) ?_
 unfold Tryz.f259
 have e1:=(HZ S c).eq
 have e2:=(Fl S (kz c)).eq
 have e3:=(Aq (S.prim _ (by decide)) (S.pure _ (by decide)) c.name hc.name).eq
 have e4:=(Fv S c.lines c.linesK hc.lines).eq
 have e5:=(Ks S c.over c.overK hc.overN).eq
 simp +contextual [-Bool.not_and,-Bool.not_or,aG,an,e1,e2,e3,e4,e5]
 simp only [gW,Bool.or_eq_true,Bool.and_eq_true,decide_eq_true_eq,beq_iff_eq,Bool.not_eq_true',Int.natCast_eq_zero,List.length_eq_zero_iff]
 clear e1 e2 e3 e4 e5
 repeat' (first | (refine And.intro ?_ ?_) | intro _)
 all_goals grind
end Go.Proofs.Ev
namespace Go.Proofs.Ev
open Go.Proofs
variable {C:bG}
def Fe (c:aW) (own:List aH):Int:=if 2≤c.kind∧c.kind≤6 then rv c.file own.length (jX c.kind (kn own c.file)) else 0
def Ff (c:aW) (own:List aH):Int:=if c.kind=2∧aF c.parent nI=false then rv c.parent own.length ((kn own c.parent).kind==1&&(kn own c.parent).type==4) else 0
def ky (c:aW) (own:List aH) (x:aI):Int:=rv x own.length (aF x c.file||ng c.file (kn own x))
def eX (c:aW) (own:List aH):List aI→Int
 | []=>0
 | x::l=>if rv x own.length (dI c.kind c.file (kn own x))=0 then eX c own l else rv x own.length (dI c.kind c.file (kn own x))
def xQ (c:aW) (own:List aH):Int:=if lS c.kind=true then (if ky c own c.after=0 then ky c own c.before else ky c own c.after) else 0
def Km (c:aW):Int:=if c.kind=2∧aF c.parent c.file=true then 20 else if lS c.kind=true∧aF c.after c.before=true∧(c.kind=6∨aF c.after c.file=false) then 1 else 0
def li (c:aW) (own:List aH):Int:=if Fe c own≠0 then Fe c own else if Ff c own≠0 then Ff c own else if xQ c own≠0 then xQ c own else if eX c own c.over≠0 then eX c own c.over else Km c
def oi (c:aW) (own:List aH) (K:SK) (H:ag) (s:Sl) (H':ag):Prop:=s 1=aw K (own.map aH.cells)∧s 2=.ptr H.length 0 139 0 0∧s 4=.int .i64 0∧∃J,H'=H++(.rows 139 0 [c.cells]::J)
theorem lI {P:Program} {t:TypeId} {x y:List AV} {b:Bool} (h:bU P C .eql t (.agg x) (.agg y)=some (.bool b)):bU P C .neq t (.agg x) (.agg y)=some (.bool !b):=by
 simp only [bU] at h ⊢
 cases he:pI P C t (.agg x) (.agg y) with
 | none=>rw [he] at h;cases h
 | some z=>rw [he] at h;simp only [Option.map_some,Option.some.injEq,AV.bool.injEq] at h;subst h;rfl
set_option maxRecDepth 100000 in
set_option maxHeartbeats 2000000 in
theorem uM (S:dP C) (c:aW) (own:List aH) (K:SK) (hc:c.Ok):sD Tryz.prog C 260 [.agg c.cells,aw K (own.map aH.cells)] (.int .i64 (li c own)):=by
 refine lN (S.frz2 _ (by decide)).1 (S.frz2 _ (by decide)).2 rfl fun H=>am Tryz.func260 rfl (S.prim _ (by decide)) (by simp) (by kernel_rfl) ?_
 unfold Tryz.f260
 have g1:=fun x=>(Kv S.toaA own K x).eq
 have g2:=fun k x=>(qz S.toaA k x).eq
 have g3:=fun x b=>(Ky S.toaA own K x b).eq
 have g4:=(At S.toaA).eq
 have g5:=fun k=>(Au S.toaA k).eq
 have g6:=fun f x=>(sq S.toaA f x).eq
 have g7:=fun k f x=>(qA S.toaA k f x).eq
 have e:=fun a b=>(zj S.toaA a b).trans (show _=some (.bool (aF a b)) from rfl)
 have en:=fun a b=>lI (e a b)
 refine cut (fun s H'=>oi c own K H s H') ?_ ?_
 ·simp [aG,oi]
 rintro s H' ⟨h1,h2,h4,J,rfl⟩
 refine cut (fun s H'=>oi c own K H s H'∧Fe c own=0) ?_ ?_
 ·simp +contextual [-Bool.not_and,-Bool.not_or,h1,h2,h4,an,g1,g2,g3,oi,li,Fe]
  try omega
 ·rintro s H' ⟨⟨h1,h2,h4,J,rfl⟩,hr1⟩
  refine cut (fun s H'=>oi c own K H s H'∧Ff c own=0) ?_ ?_
  ·simp +contextual [-Bool.not_and,-Bool.not_or,h1,h2,h4,an,g1,g2,g3,g4,en,ao,aE,oi,li,Ff,hr1]
  rintro s H' ⟨⟨h1,h2,h4,J,rfl⟩,hr2⟩
  refine cut (fun s H'=>oi c own K H s H'∧xQ c own=0) ?_ ?_
  ·cases htx:lS c.kind with
   | false=>simp [h1,h2,h4,an,g5,htx,oi,xQ]
   | true =>
    simp [h1,h2,h4,an,g5,htx,aj,au]
    refine cn (fun s H'=>oi c own K H s H'∧s 8=.lst [c.after.cells,c.before.cells] true∧∃k:Nat,s 9=.int .i64 k∧k≤2∧(1≤k→ky c own c.after=0)∧(2≤k→ky c own c.before=0)) (fun s _=>2-(match s 9 with | .int _ k=>k.toNat | _=>0)) ?_ ?_
    ·exact ⟨⟨h1,h2,h4,J,rfl⟩,rfl,0,rfl,by omega,by omega,by omega⟩
    rintro s H' ⟨⟨h1,h2,h4,J,rfl⟩,h8,k,h9,hk,ha,hb⟩
    have hk:k=0∨k=1∨k=2:=by omega
    rcases hk with rfl | rfl | rfl
    ·simp +contextual [-Bool.not_and,-Bool.not_or,h1,h2,h4,h8,h9,an,g1,g3,g6,e,oi,li,xQ,htx,hr1,hr2,ky,show IntKind.i64.wrap 1=1 from rfl]
     intro h0
     exact ⟨1,rfl,by omega,by omega⟩
    ·have ha:=ha (by omega)
     simp only [ky] at ha
     simp +contextual [-Bool.not_and,-Bool.not_or,h1,h2,h4,h8,h9,an,g1,g3,g6,e,oi,li,xQ,htx,hr1,hr2,ky,ha,show IntKind.i64.wrap (1+1)=2 from rfl,show IntKind.i64.wrap 2=2 from rfl]
     exact fun _=>⟨2,rfl,by omega⟩
    ·have ha:=ha (by omega)
     have hb:=hb (by omega)
     simp [h1,h2,h4,h8,h9,oi,xQ,htx,ha,hb]
  ·rintro s H' ⟨⟨h1,h2,h4,J,rfl⟩,hr3⟩
   refine cut (fun s H'=>oi c own K H s H'∧eX c own c.over=0) ?_ ?_
   ·simp
    refine cn (fun s H'=>oi c own K H s H'∧∃k:Nat,s 11=.int .i64 k∧k≤c.over.length∧eX c own c.over=eX c own (c.over.drop k)) (fun s _=>c.over.length-(match s 11 with | .int _ k=>k.toNat | _=>0)) ?_ ?_
    ·exact ⟨⟨h1,h2,h4,J,rfl⟩,0,rfl,by omega,rfl⟩
    rintro s H' ⟨⟨h1,h2,h4,J,rfl⟩,k,h11,hk,hv⟩
    simp [h1,h2,h4,h11]
    refine ⟨fun h=>?_,fun h=>?_⟩
    ·have hov:=hc.overN
     rw [List.drop_eq_getElem_cons h] at hv
     simp only [eX] at hv
     simp +contextual [-Bool.not_and,-Bool.not_or,h,h1,h2,h4,h11,an,g1,g3,g7,oi,li,hr1,hr2,hr3,ay h (by omega)]
     refine ⟨fun h5=>?_,fun h5=>⟨⟨k+1,by simp,by omega,?_⟩,rI h⟩⟩
     ·rw [hv,if_neg h5,if_neg h5]
     ·rw [hv,if_pos h5]
    ·have h:k=c.over.length:=by omega
     subst h
     rw [List.drop_length] at hv
     simp [h1,h2,h4,oi,hv,eX]
   ·rintro s H' ⟨⟨h1,h2,h4,J,rfl⟩,hr4⟩
    simp +contextual [-Bool.not_and,-Bool.not_or,h1,h2,h4,an,g5,e,en,li,hr1,hr2,hr3,hr4,Km]
    grind
end Go.Proofs.Ev
