/- Part 8 of the proof that quiltlaw38.BlameHistory returns true: no statement of its own. -/
import Derived.Test.YtkicailcmamaiaaGreatDoorH7
import Derived.Test.YtkicailcmamaiaaGreatDoorProg
import Derived.Test.YtkicailcmamaiaaGreatDoorH6
set_option linter.all false
namespace Go.Proofs.Ev
open Go.Proofs
set_option maxRecDepth 100000
theorem Rt:(Tryz.prog).info? 3=some Tryz.t3:=bu Tryz.typeInfo3
@[simp] theorem J8:br Tryz.prog 3=some 1:=dx Rt rfl
@[simp] theorem TE:dN Tryz.prog 3=0:=by kernel_rfl
@[simp] theorem Ty:cY Tryz.prog 3 1=0:=by kernel_rfl
theorem Ru:(Tryz.prog).info? 4=some Tryz.t4:=bu Tryz.typeInfo4
@[simp] theorem Pu:br Tryz.prog 4=some 1:=dx Ru rfl
@[simp] theorem TF:dN Tryz.prog 4=0:=by kernel_rfl
@[simp] theorem Tz:cY Tryz.prog 4 1=0:=by kernel_rfl
theorem Ql:(Tryz.prog).info? 5=some Tryz.t5:=bu Tryz.typeInfo5
@[simp] theorem No:br Tryz.prog 5=some 1:=dx Ql rfl
@[simp] theorem PK:bytesOf Tryz.prog 5=some 1:=pX Ql rfl
@[simp] theorem TG:dN Tryz.prog 5=0:=by kernel_rfl
@[simp] theorem TA:cY Tryz.prog 5 1=2:=by kernel_rfl
theorem SP:(Tryz.prog).info? 9=some Tryz.t9:=bu Tryz.typeInfo9
@[simp] theorem Mr:br Tryz.prog 9=some 1:=dx SP rfl
@[simp] theorem TH:dN Tryz.prog 9=0:=by kernel_rfl
@[simp] theorem TB:cY Tryz.prog 9 1=0:=by kernel_rfl
theorem LT:(Tryz.prog).info? 25=some Tryz.t25:=bu Tryz.typeInfo25
@[simp] theorem mD:br Tryz.prog 25=some 32:=dx LT rfl
@[simp] theorem AL:bytesOf Tryz.prog 25=some 32:=pX LT rfl
@[simp] theorem S2:dN Tryz.prog 25=0:=by kernel_rfl
theorem LU:(Tryz.prog).info? 27=some Tryz.t27:=bu Tryz.typeInfo27
@[simp] theorem kJ:br Tryz.prog 27=some 33:=dx LU rfl
@[simp] theorem Do:bytesOf Tryz.prog 27=some 40:=pX LU rfl
@[simp] theorem S3:dN Tryz.prog 27=0:=by kernel_rfl
theorem Qj:(Tryz.prog).info? 30=some Tryz.t30:=bu Tryz.typeInfo30
@[simp] theorem Qx:br Tryz.prog 30=some 1:=dx Qj rfl
@[simp] theorem S4:dN Tryz.prog 30=0:=by kernel_rfl
@[simp] theorem SE:cY Tryz.prog 30 1=0:=by kernel_rfl
theorem N0:(Tryz.prog).info? 34=some Tryz.t34:=bu Tryz.typeInfo34
@[simp] theorem Qy:br Tryz.prog 34=some 1:=dx N0 rfl
@[simp] theorem S5:dN Tryz.prog 34=0:=by kernel_rfl
@[simp] theorem SF:cY Tryz.prog 34 1=0:=by kernel_rfl
theorem N1:(Tryz.prog).info? 37=some Tryz.t37:=bu Tryz.typeInfo37
@[simp] theorem SW:br Tryz.prog 37=some 1:=dx N1 rfl
@[simp] theorem S6:dN Tryz.prog 37=0:=by kernel_rfl
@[simp] theorem SG:cY Tryz.prog 37 1=0:=by kernel_rfl
theorem Qk:(Tryz.prog).info? 47=some Tryz.t47:=bu Tryz.typeInfo47
@[simp] theorem Qz:br Tryz.prog 47=some 1:=dx Qk rfl
@[simp] theorem S7:dN Tryz.prog 47=0:=by kernel_rfl
@[simp] theorem SH:cY Tryz.prog 47 1=0:=by kernel_rfl
theorem N3:(Tryz.prog).info? 48=some Tryz.t48:=bu Tryz.typeInfo48
@[simp] theorem OK:br Tryz.prog 48=some 1:=dx N3 rfl
@[simp] theorem S8:dN Tryz.prog 48=0:=by kernel_rfl
@[simp] theorem SI:cY Tryz.prog 48 1=0:=by kernel_rfl
theorem N4:(Tryz.prog).info? 50=some Tryz.t50:=bu Tryz.typeInfo50
@[simp] theorem QA:br Tryz.prog 50=some 139:=dx N4 rfl
@[simp] theorem S9:dN Tryz.prog 50=0:=by kernel_rfl
theorem Qm:(Tryz.prog).info? 52=some Tryz.t52:=bu Tryz.typeInfo52
@[simp] theorem QB:br Tryz.prog 52=some 1:=dx Qm rfl
@[simp] theorem Ta:dN Tryz.prog 52=0:=by kernel_rfl
@[simp] theorem SJ:cY Tryz.prog 52 1=0:=by kernel_rfl
theorem N5:(Tryz.prog).info? 54=some Tryz.t54:=bu Tryz.typeInfo54
@[simp] theorem QC:br Tryz.prog 54=some 5:=dx N5 rfl
@[simp] theorem Tb:dN Tryz.prog 54=0:=by kernel_rfl
theorem LV:(Tryz.prog).info? 62=some Tryz.t62:=bu Tryz.typeInfo62
@[simp] theorem Mp:br Tryz.prog 62=some 66:=dx LV rfl
@[simp] theorem NC:bytesOf Tryz.prog 62=some 80:=pX LV rfl
@[simp] theorem Tc:dN Tryz.prog 62=0:=by kernel_rfl
theorem N6:(Tryz.prog).info? 64=some Tryz.t64:=bu Tryz.typeInfo64
@[simp] theorem SY:br Tryz.prog 64=some 1:=dx N6 rfl
@[simp] theorem Td:dN Tryz.prog 64=0:=by kernel_rfl
@[simp] theorem SL:cY Tryz.prog 64 1=0:=by kernel_rfl
theorem Qn:(Tryz.prog).info? 66=some Tryz.t66:=bu Tryz.typeInfo66
@[simp] theorem Te:dN Tryz.prog 66=0:=by kernel_rfl
theorem LW:(Tryz.prog).info? 72=some Tryz.t72:=bu Tryz.typeInfo72
@[simp] theorem kK:br Tryz.prog 72=some 172:=dx LW rfl
@[simp] theorem od:bytesOf Tryz.prog 72=some 296:=pX LW rfl
@[simp] theorem Tf:dN Tryz.prog 72=0:=by kernel_rfl
theorem N7:(Tryz.prog).info? 78=some Tryz.t78:=bu Tryz.typeInfo78
@[simp] theorem SZ:br Tryz.prog 78=some 1:=dx N7 rfl
@[simp] theorem Tg:dN Tryz.prog 78=0:=by kernel_rfl
@[simp] theorem SM:cY Tryz.prog 78 1=0:=by kernel_rfl
theorem LX:(Tryz.prog).info? 86=some Tryz.t86:=bu Tryz.typeInfo86
@[simp] theorem Mq:br Tryz.prog 86=some 67:=dx LX rfl
@[simp] theorem ND:bytesOf Tryz.prog 86=some 96:=pX LX rfl
@[simp] theorem Th:dN Tryz.prog 86=0:=by kernel_rfl
theorem N8:(Tryz.prog).info? 89=some Tryz.t89:=bu Tryz.typeInfo89
@[simp] theorem S0:br Tryz.prog 89=some 1:=dx N8 rfl
@[simp] theorem Ti:dN Tryz.prog 89=0:=by kernel_rfl
@[simp] theorem SN:cY Tryz.prog 89 1=0:=by kernel_rfl
theorem LY:(Tryz.prog).info? 96=some Tryz.t96:=bu Tryz.typeInfo96
@[simp] theorem J9:br Tryz.prog 96=some 37:=dx LY rfl
@[simp] theorem Lo:bytesOf Tryz.prog 96=some 120:=pX LY rfl
@[simp] theorem Tj:dN Tryz.prog 96=0:=by kernel_rfl
theorem NW:(Tryz.prog).info? 133=some Tryz.t133:=bu Tryz.typeInfo133
@[simp] theorem OH:br Tryz.prog 133=some 1:=dx NW rfl
theorem KF:(Tryz.prog).info? 192=some Tryz.t192:=bu Tryz.typeInfo192
@[simp] theorem RL:br Tryz.prog 192=some 1:=dx KF rfl
@[simp] theorem RS:dN Tryz.prog 192=0:=by kernel_rfl
@[simp] theorem Q7:cY Tryz.prog 192 1=0:=by kernel_rfl
theorem KG:(Tryz.prog).info? 194=some Tryz.t194:=bu Tryz.typeInfo194
@[simp] theorem RM:br Tryz.prog 194=some 1:=dx KG rfl
@[simp] theorem RT:dN Tryz.prog 194=0:=by kernel_rfl
@[simp] theorem Q8:cY Tryz.prog 194 1=0:=by kernel_rfl
theorem KH:(Tryz.prog).info? 197=some Tryz.t197:=bu Tryz.typeInfo197
@[simp] theorem RN:br Tryz.prog 197=some 1:=dx KH rfl
@[simp] theorem RU:dN Tryz.prog 197=0:=by kernel_rfl
@[simp] theorem Q9:cY Tryz.prog 197 1=0:=by kernel_rfl
theorem NX:(Tryz.prog).info? 205=some Tryz.t205:=bu Tryz.typeInfo205
@[simp] theorem Db:br Tryz.prog 205=some 1:=dx NX rfl
@[simp] theorem RW:dN Tryz.prog 205=0:=by kernel_rfl
@[simp] theorem Ra:cY Tryz.prog 205 1=0:=by kernel_rfl
theorem KJ:(Tryz.prog).info? 206=some Tryz.t206:=bu Tryz.typeInfo206
@[simp] theorem RO:br Tryz.prog 206=some 8:=dx KJ rfl
@[simp] theorem RX:dN Tryz.prog 206=0:=by kernel_rfl
theorem NY:(Tryz.prog).info? 221=some Tryz.t221:=bu Tryz.typeInfo221
@[simp] theorem OI:br Tryz.prog 221=some 1:=dx NY rfl
@[simp] theorem RY:dN Tryz.prog 221=0:=by kernel_rfl
@[simp] theorem Rb:cY Tryz.prog 221 1=0:=by kernel_rfl
theorem KL:(Tryz.prog).info? 224=some Tryz.t224:=bu Tryz.typeInfo224
@[simp] theorem RP:br Tryz.prog 224=some 1:=dx KL rfl
@[simp] theorem RZ:dN Tryz.prog 224=0:=by kernel_rfl
@[simp] theorem Rc:cY Tryz.prog 224 1=0:=by kernel_rfl
theorem Gz:(Tryz.prog).info? 227=some Tryz.t227:=bu Tryz.typeInfo227
@[simp] theorem HU:br Tryz.prog 227=some 34:=dx Gz rfl
@[simp] theorem NB:bytesOf Tryz.prog 227=some 48:=pX Gz rfl
@[simp] theorem R0:dN Tryz.prog 227=0:=by kernel_rfl
theorem NZ:(Tryz.prog).info? 261=some Tryz.t261:=bu Tryz.typeInfo261
@[simp] theorem OJ:br Tryz.prog 261=some 1:=dx NZ rfl
@[simp] theorem R1:dN Tryz.prog 261=0:=by kernel_rfl
@[simp] theorem Rd:cY Tryz.prog 261 1=0:=by kernel_rfl
theorem GA:(Tryz.prog).info? 263=some Tryz.t263:=bu Tryz.typeInfo263
@[simp] theorem se:br Tryz.prog 263=some 3:=dx GA rfl
@[simp] theorem tf:bytesOf Tryz.prog 263=some 48:=pX GA rfl
@[simp] theorem R2:dN Tryz.prog 263=0:=by kernel_rfl
theorem KM:(Tryz.prog).info? 271=some Tryz.t271:=bu Tryz.typeInfo271
@[simp] theorem RQ:br Tryz.prog 271=some 64:=dx KM rfl
@[simp] theorem R3:dN Tryz.prog 271=0:=by kernel_rfl
theorem KN:(Tryz.prog).info? 380=some Tryz.t380:=bu Tryz.typeInfo380
@[simp] theorem RR:br Tryz.prog 380=some 2:=dx KN rfl
@[simp] theorem R4:dN Tryz.prog 380=1:=by kernel_rfl
theorem N2:(Tryz.prog).info? 410=some Tryz.t410:=bu Tryz.typeInfo410
@[simp] theorem R5:dN Tryz.prog 410=0:=by kernel_rfl
@[simp] theorem Tt:be Tryz.prog 3=some false:=dz Tryz.underlying3 rfl
@[simp] theorem TI:aN Tryz.prog 3=some (.int .i64 0):=by rw [aN,Rt];kernel_rfl
@[simp] theorem Tu:be Tryz.prog 4=some false:=dz Tryz.underlying4 rfl
@[simp] theorem TJ:aN Tryz.prog 4=some (.bool false):=by rw [aN,Ru];kernel_rfl
@[simp] theorem Tw:be Tryz.prog 5=some false:=dz Tryz.underlying5 rfl
@[simp] theorem TK:aN Tryz.prog 5=some (.int .u8 0):=by rw [aN,Ql];kernel_rfl
@[simp] theorem Tx:be Tryz.prog 9=some false:=dz Tryz.underlying9 rfl
@[simp] theorem TD (H:ae) (l:List UInt8):fQ Tryz.prog H 9 (.str l)=some (.int .i64 l.length):=Ja Tryz.underlying9 H l
@[simp] theorem TC (l:List UInt8) (ix:AV):kZ Tryz.prog 9 (.str l) ix=(iC ix l.length).bind fun i=>(l[i]?).map fun b=>.int .u8 b.toNat:=L2 Tryz.underlying9 l ix
@[simp] theorem Rv (H:ae) (r:List (List AV)) (x:Bool):fQ Tryz.prog H 22 (.lst r x)=some (.int .i64 r.length):=iO Tryz.underlying22 H r x
@[simp] theorem Sb:be Tryz.prog 23=some false:=dz Tryz.underlying23 rfl
@[simp] theorem Rw (H:ae) (r:List (List AV)) (x:Bool):fQ Tryz.prog H 23 (.lst r x)=some (.int .i64 r.length):=iO Tryz.underlying23 H r x
@[simp] theorem Rx (H:ae) (k:SK) (r:List (List AV)):fQ Tryz.prog H 23 (am k r).denil=some (.int .i64 r.length):=gq Tryz.underlying23 H k r
@[simp] theorem Rg (k:SK) (r:List (List AV)) (ix:AV):aX Tryz.prog 23 (am k r) ix=(iC ix r.length).bind fun i=>(r[i]?).bind fun row=>if row.length=37 then some (.eptr row) else none:=iN Tryz.underlying23 J9 k r ix
@[simp] theorem Sc:be Tryz.prog 25=some true:=dz Tryz.underlying25 rfl
@[simp] theorem QD:Program.underlying Tryz.prog 25=some (.array 32 5):=Tryz.underlying25
@[simp] theorem QJ:aN Tryz.prog 25=some (.agg (dig aJ)):=by rw [aN,LT];kernel_rfl
@[simp] theorem SO (x ix:AV):aX Tryz.prog 25 x ix=(iC ix 32).bind fun i=>bk x (i*1):=lc Tryz.underlying25 No x ix
@[simp] theorem Sv (ps:List (Nat×AV)):d5 Tryz.prog 25 ps=(aD (fun i=>some (i*1,1)) (dig aJ) ps).map .agg:=AK QJ Tryz.underlying25 No ps
@[simp] theorem Sd:be Tryz.prog 27=some true:=dz Tryz.underlying27 rfl
@[simp] theorem QK:aN Tryz.prog 27=some (.agg (aM.cells)):=by rw [aN,LU];kernel_rfl
@[simp] theorem PL (x:AV):bB Tryz.prog 27 x 0=bk x 0:=cQ (k:=0) (ft:=25) (off:=0) (n:=31) Tryz.underlying27 rfl rfl mD rfl x
@[simp] theorem PM (x:AV):bB Tryz.prog 27 x 1=bk x 32:=cQ (k:=1) (ft:=3) (off:=32) (n:=0) Tryz.underlying27 rfl rfl J8 rfl x
@[simp] theorem Sw (ps:List (Nat×AV)):d5 Tryz.prog 27 ps=(aD (fun i=>([(0,32),(32,1)]:List (Nat×Nat))[i]?) (aM.cells) ps).map .agg:=pV [(0,32),(32,1)] QK Tryz.underlying27 (by simp) ps
@[simp] theorem Se:be Tryz.prog 30=some false:=dz Tryz.underlying30 rfl
@[simp] theorem Ry (H:ae) (k:SK) (r:List (List AV)):fQ Tryz.prog H 30 (am k r).denil=some (.int .i64 r.length):=gq Tryz.underlying30 H k r
@[simp] theorem Ri (k:SK) (r:List (List AV)) (ix:AV):aX Tryz.prog 30 (am k r) ix=(iC ix r.length).bind fun i=>(r[i]?).bind fun row=>if row.length=66 then some (.eptr row) else none:=iN Tryz.underlying30 Mp k r ix
@[simp] theorem Sf:be Tryz.prog 34=some false:=dz Tryz.underlying34 rfl
@[simp] theorem Tk:aN Tryz.prog 34=some (.nils):=by rw [aN,N0];kernel_rfl
@[simp] theorem Rz (H:ae) (r:List (List AV)) (x:Bool):fQ Tryz.prog H 34 (.lst r x)=some (.int .i64 r.length):=iO Tryz.underlying34 H r x
@[simp] theorem RB (H:ae) (k:SK) (r:List (List AV)):fQ Tryz.prog H 34 (am k r).denil=some (.int .i64 r.length):=gq Tryz.underlying34 H k r
@[simp] theorem RA (H:ae) (b g s l n:Nat):fQ Tryz.prog H 34 (.sl b g s l n)=some (.int .i64 n):=pl Tryz.underlying34 H b g s l n
@[simp] theorem Rk (k:SK) (r:List (List AV)) (ix:AV):aX Tryz.prog 34 (am k r) ix=(iC ix r.length).bind fun i=>(r[i]?).bind fun row=>if row.length=32 then some (.eptr row) else none:=iN Tryz.underlying34 mD k r ix
@[simp] theorem Rj (b g s l m:Nat) (ix:AV):aX Tryz.prog 34 (.sl b g s l m) ix=if 32=s then (iC ix m).map fun i=>.ptr b g s (l+i) 0 else none:=rQ Tryz.underlying34 mD b g s l m ix
@[simp] theorem Sg:be Tryz.prog 37=some false:=dz Tryz.underlying37 rfl
@[simp] theorem Tl:aN Tryz.prog 37=some (.nils):=by rw [aN,N1];kernel_rfl
@[simp] theorem RC (H:ae) (k:SK) (r:List (List AV)):fQ Tryz.prog H 37 (am k r).denil=some (.int .i64 r.length):=gq Tryz.underlying37 H k r
@[simp] theorem Rl (k:SK) (r:List (List AV)) (ix:AV):aX Tryz.prog 37 (am k r) ix=(iC ix r.length).bind fun i=>(r[i]?).bind fun row=>if row.length=67 then some (.eptr row) else none:=iN Tryz.underlying37 Mq k r ix
@[simp] theorem Sh:be Tryz.prog 47=some false:=dz Tryz.underlying47 rfl
@[simp] theorem RD (H:ae) (k:SK) (r:List (List AV)):fQ Tryz.prog H 47 (am k r).denil=some (.int .i64 r.length):=gq Tryz.underlying47 H k r
@[simp] theorem Rm (k:SK) (r:List (List AV)) (ix:AV):aX Tryz.prog 47 (am k r) ix=(iC ix r.length).bind fun i=>(r[i]?).bind fun row=>if row.length=1 then some (.eptr row) else none:=iN Tryz.underlying47 Mr k r ix
@[simp] theorem Si:be Tryz.prog 48=some false:=dz Tryz.underlying48 rfl
@[simp] theorem Tm:aN Tryz.prog 48=some (.nils):=by rw [aN,N3];kernel_rfl
@[simp] theorem RE (H:ae) (k:SK) (r:List (List AV)):fQ Tryz.prog H 48 (am k r).denil=some (.int .i64 r.length):=gq Tryz.underlying48 H k r
@[simp] theorem Rn (r:List (List AV)) (x:Bool) (ix:AV):aX Tryz.prog 48 (.lst r x) ix=(iC ix r.length).bind fun i=>(r[i]?).bind fun row=>if row.length=33 then some (.eptr row) else none:=ph Tryz.underlying48 kJ r x ix
@[simp] theorem Ro (k:SK) (r:List (List AV)) (ix:AV):aX Tryz.prog 48 (am k r) ix=(iC ix r.length).bind fun i=>(r[i]?).bind fun row=>if row.length=33 then some (.eptr row) else none:=iN Tryz.underlying48 kJ k r ix
@[simp] theorem Sj:be Tryz.prog 50=some true:=dz Tryz.underlying50 rfl
@[simp] theorem Tn:aN Tryz.prog 50=some (.agg ([.int .i64 0]++aM.cells++[.int .i64 0]++aM.cells++[.str [],.int .i64 0,.str []]++aM.cells++aM.cells++[.nils,.nils])):=by rw [aN,N4];kernel_rfl
@[simp] theorem PN (x:AV):bB Tryz.prog 50 x 0=bk x 0:=cQ (k:=0) (ft:=3) (off:=0) (n:=0) Tryz.underlying50 rfl rfl J8 rfl x
@[simp] theorem PO (x:AV):bB Tryz.prog 50 x 1=bk x 1:=cQ (k:=1) (ft:=27) (off:=1) (n:=32) Tryz.underlying50 rfl rfl kJ rfl x
@[simp] theorem PP (x:AV):bB Tryz.prog 50 x 2=bk x 34:=cQ (k:=2) (ft:=3) (off:=34) (n:=0) Tryz.underlying50 rfl rfl J8 rfl x
@[simp] theorem PQ (x:AV):bB Tryz.prog 50 x 3=bk x 35:=cQ (k:=3) (ft:=27) (off:=35) (n:=32) Tryz.underlying50 rfl rfl kJ rfl x
@[simp] theorem PR (x:AV):bB Tryz.prog 50 x 4=bk x 68:=cQ (k:=4) (ft:=9) (off:=68) (n:=0) Tryz.underlying50 rfl rfl Mr rfl x
@[simp] theorem PS (x:AV):bB Tryz.prog 50 x 5=bk x 69:=cQ (k:=5) (ft:=3) (off:=69) (n:=0) Tryz.underlying50 rfl rfl J8 rfl x
@[simp] theorem PT (x:AV):bB Tryz.prog 50 x 6=bk x 70:=cQ (k:=6) (ft:=9) (off:=70) (n:=0) Tryz.underlying50 rfl rfl Mr rfl x
@[simp] theorem PU (x:AV):bB Tryz.prog 50 x 7=bk x 71:=cQ (k:=7) (ft:=27) (off:=71) (n:=32) Tryz.underlying50 rfl rfl kJ rfl x
@[simp] theorem PV (x:AV):bB Tryz.prog 50 x 8=bk x 104:=cQ (k:=8) (ft:=27) (off:=104) (n:=32) Tryz.underlying50 rfl rfl kJ rfl x
@[simp] theorem PW (x:AV):bB Tryz.prog 50 x 9=bk x 137:=cQ (k:=9) (ft:=47) (off:=137) (n:=0) Tryz.underlying50 rfl rfl Qz rfl x
@[simp] theorem Pf (x:AV):bB Tryz.prog 50 x 10=bk x 138:=cQ (k:=10) (ft:=48) (off:=138) (n:=0) Tryz.underlying50 rfl rfl OK rfl x
@[simp] theorem Sk:be Tryz.prog 52=some false:=dz Tryz.underlying52 rfl
@[simp] theorem RF (H:ae) (k:SK) (r:List (List AV)):fQ Tryz.prog H 52 (am k r).denil=some (.int .i64 r.length):=gq Tryz.underlying52 H k r
@[simp] theorem Rp (k:SK) (r:List (List AV)) (ix:AV):aX Tryz.prog 52 (am k r) ix=(iC ix r.length).bind fun i=>(r[i]?).bind fun row=>if row.length=139 then some (.eptr row) else none:=iN Tryz.underlying52 QA k r ix
@[simp] theorem Sm:be Tryz.prog 54=some true:=dz Tryz.underlying54 rfl
@[simp] theorem QL:aN Tryz.prog 54=some (.agg ([.str [],.str [],.int .i64 0,.nils,.nils])):=by rw [aN,N5];kernel_rfl
@[simp] theorem PX (x:AV):bB Tryz.prog 54 x 0=bk x 0:=cQ (k:=0) (ft:=9) (off:=0) (n:=0) Tryz.underlying54 rfl rfl Mr rfl x
@[simp] theorem PY (x:AV):bB Tryz.prog 54 x 1=bk x 1:=cQ (k:=1) (ft:=9) (off:=1) (n:=0) Tryz.underlying54 rfl rfl Mr rfl x
@[simp] theorem PZ (x:AV):bB Tryz.prog 54 x 2=bk x 2:=cQ (k:=2) (ft:=3) (off:=2) (n:=0) Tryz.underlying54 rfl rfl J8 rfl x
@[simp] theorem P0 (x:AV):bB Tryz.prog 54 x 3=bk x 3:=cQ (k:=3) (ft:=34) (off:=3) (n:=0) Tryz.underlying54 rfl rfl Qy rfl x
@[simp] theorem P1 (x:AV):bB Tryz.prog 54 x 4=bk x 4:=cQ (k:=4) (ft:=52) (off:=4) (n:=0) Tryz.underlying54 rfl rfl QB rfl x
@[simp] theorem Sx (ps:List (Nat×AV)):d5 Tryz.prog 54 ps=(aD (fun i=>([(0,1),(1,1),(2,1),(3,1),(4,1)]:List (Nat×Nat))[i]?) ([.str [],.str [],.int .i64 0,.nils,.nils]) ps).map .agg:=pV [(0,1),(1,1),(2,1),(3,1),(4,1)] QL Tryz.underlying54 (by simp) ps
@[simp] theorem Sn:be Tryz.prog 62=some true:=dz Tryz.underlying62 rfl
@[simp] theorem QM:aN Tryz.prog 62=some (.agg ([.int .i64 0]++dig aJ++aM.cells)):=by rw [aN,LV];kernel_rfl
@[simp] theorem IE (ps:List (Nat×AV)):d5 Tryz.prog 62 ps=(aD (fun i=>([(0,1),(1,32),(33,33)]:List (Nat×Nat))[i]?) ([.int .i64 0]++dig aJ++aM.cells) ps).map .agg:=pV [(0,1),(1,32),(33,33)] QM Tryz.underlying62 (by simp) ps
@[simp] theorem So:be Tryz.prog 64=some false:=dz Tryz.underlying64 rfl
@[simp] theorem To:aN Tryz.prog 64=some (.nilp):=by rw [aN,N6];kernel_rfl
@[simp] theorem QN:aN Tryz.prog 66=some (.agg (aM.cells++[.bool false,.bool false,.nils])):=by rw [aN,Qn];kernel_rfl
@[simp] theorem P2 (x:AV):bB Tryz.prog 66 x 0=bk x 0:=cQ (k:=0) (ft:=27) (off:=0) (n:=32) Tryz.underlying66 rfl rfl kJ rfl x
@[simp] theorem P3 (x:AV):bB Tryz.prog 66 x 1=bk x 33:=cQ (k:=1) (ft:=4) (off:=33) (n:=0) Tryz.underlying66 rfl rfl Pu rfl x
@[simp] theorem P4 (x:AV):bB Tryz.prog 66 x 2=bk x 34:=cQ (k:=2) (ft:=4) (off:=34) (n:=0) Tryz.underlying66 rfl rfl Pu rfl x
@[simp] theorem P5 (x:AV):bB Tryz.prog 66 x 3=bk x 35:=cQ (k:=3) (ft:=30) (off:=35) (n:=0) Tryz.underlying66 rfl rfl Qx rfl x
@[simp] theorem Sy (ps:List (Nat×AV)):d5 Tryz.prog 66 ps=(aD (fun i=>([(0,33),(33,1),(34,1),(35,1)]:List (Nat×Nat))[i]?) (aM.cells++[.bool false,.bool false,.nils]) ps).map .agg:=pV [(0,33),(33,1),(34,1),(35,1)] QN Tryz.underlying66 (by simp) ps
@[simp] theorem Sp:be Tryz.prog 72=some true:=dz Tryz.underlying72 rfl
@[simp] theorem QO:aN Tryz.prog 72=some (.agg (aM.cells++[.int .i64 0]++aM.cells++[.int .i64 0]++aM.cells++[.str [],.int .i64 0,.str [],.str []]++aM.cells++aM.cells++[.nils])):=by rw [aN,LW];kernel_rfl
@[simp] theorem P6 (x:AV):bB Tryz.prog 72 x 0=bk x 0:=cQ (k:=0) (ft:=27) (off:=0) (n:=32) Tryz.underlying72 rfl rfl kJ rfl x
@[simp] theorem P7 (x:AV):bB Tryz.prog 72 x 1=bk x 33:=cQ (k:=1) (ft:=3) (off:=33) (n:=0) Tryz.underlying72 rfl rfl J8 rfl x
@[simp] theorem P8 (x:AV):bB Tryz.prog 72 x 2=bk x 34:=cQ (k:=2) (ft:=27) (off:=34) (n:=32) Tryz.underlying72 rfl rfl kJ rfl x
@[simp] theorem P9 (x:AV):bB Tryz.prog 72 x 3=bk x 67:=cQ (k:=3) (ft:=3) (off:=67) (n:=0) Tryz.underlying72 rfl rfl J8 rfl x
@[simp] theorem Qa (x:AV):bB Tryz.prog 72 x 4=bk x 68:=cQ (k:=4) (ft:=27) (off:=68) (n:=32) Tryz.underlying72 rfl rfl kJ rfl x
@[simp] theorem Qb (x:AV):bB Tryz.prog 72 x 5=bk x 101:=cQ (k:=5) (ft:=9) (off:=101) (n:=0) Tryz.underlying72 rfl rfl Mr rfl x
@[simp] theorem Qc (x:AV):bB Tryz.prog 72 x 9=bk x 105:=cQ (k:=9) (ft:=27) (off:=105) (n:=32) Tryz.underlying72 rfl rfl kJ rfl x
@[simp] theorem Pg (x:AV):bB Tryz.prog 72 x 10=bk x 138:=cQ (k:=10) (ft:=27) (off:=138) (n:=32) Tryz.underlying72 rfl rfl kJ rfl x
@[simp] theorem Ph (x:AV):bB Tryz.prog 72 x 11=bk x 171:=cQ (k:=11) (ft:=48) (off:=171) (n:=0) Tryz.underlying72 rfl rfl OK rfl x
@[simp] theorem SA (ps:List (Nat×AV)):d5 Tryz.prog 72 ps=(aD (fun i=>([(0,33),(33,1),(34,33),(67,1),(68,33),(101,1),(102,1),(103,1),(104,1),(105,33),(138,33),(171,1)]:List (Nat×Nat))[i]?) (aM.cells++[.int .i64 0]++aM.cells++[.int .i64 0]++aM.cells++[.str [],.int .i64 0,.str [],.str []]++aM.cells++aM.cells++[.nils]) ps).map .agg:=pV [(0,33),(33,1),(34,33),(67,1),(68,33),(101,1),(102,1),(103,1),(104,1),(105,33),(138,33),(171,1)] QO Tryz.underlying72 (by simp) ps
@[simp] theorem Sq:be Tryz.prog 78=some false:=dz Tryz.underlying78 rfl
@[simp] theorem Kd:Program.underlying Tryz.prog 78=some (.map 27 4):=Tryz.underlying78
@[simp] theorem Tp:aN Tryz.prog 78=some (.nilm):=by rw [aN,N7];kernel_rfl
@[simp] theorem Sr:be Tryz.prog 86=some true:=dz Tryz.underlying86 rfl
@[simp] theorem QP:aN Tryz.prog 86=some (.agg (aM.cells++aM.cells++[.str []])):=by rw [aN,LX];kernel_rfl
@[simp] theorem NA (ps:List (Nat×AV)):d5 Tryz.prog 86 ps=(aD (fun i=>([(0,33),(33,33),(66,1)]:List (Nat×Nat))[i]?) (aM.cells++aM.cells++[.str []]) ps).map .agg:=pV [(0,33),(33,33),(66,1)] QP Tryz.underlying86 (by simp) ps
@[simp] theorem Ss:be Tryz.prog 89=some false:=dz Tryz.underlying89 rfl
@[simp] theorem Tq:aN Tryz.prog 89=some (.nils):=by rw [aN,N8];kernel_rfl
@[simp] theorem RG (H:ae) (r:List (List AV)) (x:Bool):fQ Tryz.prog H 89 (.lst r x)=some (.int .i64 r.length):=iO Tryz.underlying89 H r x
@[simp] theorem RI (H:ae) (k:SK) (r:List (List AV)):fQ Tryz.prog H 89 (am k r).denil=some (.int .i64 r.length):=gq Tryz.underlying89 H k r
@[simp] theorem RH (H:ae) (b g s l n:Nat):fQ Tryz.prog H 89 (.sl b g s l n)=some (.int .i64 n):=pl Tryz.underlying89 H b g s l n
@[simp] theorem Rq (r:List (List AV)) (x:Bool) (ix:AV):aX Tryz.prog 89 (.lst r x) ix=(iC ix r.length).bind fun i=>(r[i]?).bind fun row=>if row.length=172 then some (.eptr row) else none:=ph Tryz.underlying89 kK r x ix
@[simp] theorem Rs (k:SK) (r:List (List AV)) (ix:AV):aX Tryz.prog 89 (am k r) ix=(iC ix r.length).bind fun i=>(r[i]?).bind fun row=>if row.length=172 then some (.eptr row) else none:=iN Tryz.underlying89 kK k r ix
@[simp] theorem Rr (b g s l m:Nat) (ix:AV):aX Tryz.prog 89 (.sl b g s l m) ix=if 172=s then (iC ix m).map fun i=>.ptr b g s (l+i) 0 else none:=rQ Tryz.underlying89 kK b g s l m ix
@[simp] theorem Su:be Tryz.prog 96=some true:=dz Tryz.underlying96 rfl
@[simp] theorem Ts:aN Tryz.prog 96=some (.agg (dig aJ++[.str [],.str [],.int .i64 0,.nils,.nils])):=by rw [aN,LY];kernel_rfl
@[simp] theorem Qd (x:AV):bB Tryz.prog 96 x 0=bk x 0:=cQ (k:=0) (ft:=25) (off:=0) (n:=31) Tryz.underlying96 rfl rfl mD rfl x
@[simp] theorem Qe (x:AV):bB Tryz.prog 96 x 1=bk x 32:=cQ (k:=1) (ft:=54) (off:=32) (n:=4) Tryz.underlying96 rfl rfl QC rfl x
@[simp] theorem Qp (H:ae) (k:SK) (r:List (List AV)):fQ Tryz.prog H 119 (am k r).denil=some (.int .i64 r.length):=gq Tryz.underlying119 H k r
@[simp] theorem Qg (k:SK) (r:List (List AV)) (ix:AV):aX Tryz.prog 119 (am k r) ix=(iC ix r.length).bind fun i=>(r[i]?).bind fun row=>if row.length=1 then some (.eptr row) else none:=iN Tryz.underlying119 J8 k r ix
@[simp] theorem QQ:be Tryz.prog 192=some false:=dz Tryz.underlying192 rfl
@[simp] theorem K0:Program.underlying Tryz.prog 192=some (.map 25 34):=Tryz.underlying192
@[simp] theorem R6:aN Tryz.prog 192=some (.nilm):=by rw [aN,KF];kernel_rfl
@[simp] theorem QR:be Tryz.prog 194=some false:=dz Tryz.underlying194 rfl
@[simp] theorem K3:Program.underlying Tryz.prog 194=some (.map 25 4):=Tryz.underlying194
@[simp] theorem R7:aN Tryz.prog 194=some (.nilm):=by rw [aN,KG];kernel_rfl
@[simp] theorem QS:be Tryz.prog 197=some false:=dz Tryz.underlying197 rfl
@[simp] theorem Ib:Program.underlying Tryz.prog 197=some (.map 27 48):=Tryz.underlying197
@[simp] theorem R8:aN Tryz.prog 197=some (.nilm):=by rw [aN,KH];kernel_rfl
@[simp] theorem QT:be Tryz.prog 205=some false:=dz Tryz.underlying205 rfl
@[simp] theorem QU:be Tryz.prog 206=some true:=dz Tryz.underlying206 rfl
@[simp] theorem OQ:aN Tryz.prog 206=some (.agg (List.replicate 8 (.int .u32 0))):=by rw [aN,KJ];kernel_rfl
@[simp] theorem Rf (x ix:AV):aX Tryz.prog 206 x ix=(iC ix 8).bind fun i=>bk x (i*1):=lc Tryz.underlying206 Db x ix
@[simp] theorem Q2 (ps:List (Nat×AV)):d5 Tryz.prog 206 ps=(aD (fun i=>some (i*1,1)) (List.replicate 8 (.int .u32 0)) ps).map .agg:=AK OQ Tryz.underlying206 Db ps
@[simp] theorem QV:be Tryz.prog 221=some false:=dz Tryz.underlying221 rfl
@[simp] theorem Qq (H:ae) (b g s l n:Nat):fQ Tryz.prog H 221 (.sl b g s l n)=some (.int .i64 n):=pl Tryz.underlying221 H b g s l n
@[simp] theorem Qh (b g s l m:Nat) (ix:AV):aX Tryz.prog 221 (.sl b g s l m) ix=if 1=s then (iC ix m).map fun i=>.ptr b g s (l+i) 0 else none:=rQ Tryz.underlying221 No b g s l m ix
@[simp] theorem QW:be Tryz.prog 224=some false:=dz Tryz.underlying224 rfl
@[simp] theorem R9:aN Tryz.prog 224=some (.nils):=by rw [aN,KL];kernel_rfl
@[simp] theorem QX:be Tryz.prog 227=some true:=dz Tryz.underlying227 rfl
@[simp] theorem OR:aN Tryz.prog 227=some (.agg (aM.cells++[.nilf])):=by rw [aN,Gz];kernel_rfl
@[simp] theorem O7 (x:AV):bB Tryz.prog 227 x 0=bk x 0:=cQ (k:=0) (ft:=27) (off:=0) (n:=32) Tryz.underlying227 rfl rfl kJ rfl x
@[simp] theorem O8 (x:AV):bB Tryz.prog 227 x 1=bk x 33:=cQ (k:=1) (ft:=133) (off:=33) (n:=0) Tryz.underlying227 rfl rfl OH rfl x
@[simp] theorem Q3 (ps:List (Nat×AV)):d5 Tryz.prog 227 ps=(aD (fun i=>([(0,33),(33,1)]:List (Nat×Nat))[i]?) (aM.cells++[.nilf]) ps).map .agg:=pV [(0,33),(33,1)] OR Tryz.underlying227 (by simp) ps
@[simp] theorem QY:be Tryz.prog 261=some false:=dz Tryz.underlying261 rfl
@[simp] theorem Qr (H:ae) (k:SK) (r:List (List AV)):fQ Tryz.prog H 261 (am k r).denil=some (.int .i64 r.length):=gq Tryz.underlying261 H k r
@[simp] theorem Qi (k:SK) (r:List (List AV)) (ix:AV):aX Tryz.prog 261 (am k r) ix=(iC ix r.length).bind fun i=>(r[i]?).bind fun row=>if row.length=3 then some (.eptr row) else none:=iN Tryz.underlying261 se k r ix
@[simp] theorem QZ:be Tryz.prog 263=some true:=dz Tryz.underlying263 rfl
@[simp] theorem OS:aN Tryz.prog 263=some (.agg ([.bool false,.str [],.nils])):=by rw [aN,GA];kernel_rfl
@[simp] theorem O9 (x:AV):bB Tryz.prog 263 x 0=bk x 0:=cQ (k:=0) (ft:=4) (off:=0) (n:=0) Tryz.underlying263 rfl rfl Pu rfl x
@[simp] theorem Pa (x:AV):bB Tryz.prog 263 x 1=bk x 1:=cQ (k:=1) (ft:=9) (off:=1) (n:=0) Tryz.underlying263 rfl rfl Mr rfl x
@[simp] theorem Pb (x:AV):bB Tryz.prog 263 x 2=bk x 2:=cQ (k:=2) (ft:=261) (off:=2) (n:=0) Tryz.underlying263 rfl rfl OJ rfl x
@[simp] theorem Q4 (ps:List (Nat×AV)):d5 Tryz.prog 263 ps=(aD (fun i=>([(0,1),(1,1),(2,1)]:List (Nat×Nat))[i]?) ([.bool false,.str [],.nils]) ps).map .agg:=pV [(0,1),(1,1),(2,1)] OS Tryz.underlying263 (by simp) ps
@[simp] theorem Q0:be Tryz.prog 271=some true:=dz Tryz.underlying271 rfl
@[simp] theorem OT:aN Tryz.prog 271=some (.agg (List.replicate 64 (.int .u32 0))):=by rw [aN,KM];kernel_rfl
@[simp] theorem Rh (x ix:AV):aX Tryz.prog 271 x ix=(iC ix 64).bind fun i=>bk x (i*1):=lc Tryz.underlying271 Db x ix
@[simp] theorem Q5 (ps:List (Nat×AV)):d5 Tryz.prog 271 ps=(aD (fun i=>some (i*1,1)) (List.replicate 64 (.int .u32 0)) ps).map .agg:=AK OT Tryz.underlying271 Db ps
@[simp] theorem Sa:aN Tryz.prog 380=some (.agg ([.nilp,.nils])):=by rw [aN,KN];kernel_rfl
@[simp] theorem Pc (x:AV):bB Tryz.prog 380 x 1=bk x 1:=cQ (k:=1) (ft:=221) (off:=1) (n:=0) Tryz.underlying380 rfl rfl OI rfl x
@[simp] theorem OU:aN Tryz.prog 410=some (.agg ([.int .i64 0,.bool false])):=by rw [aN,N2];kernel_rfl
@[simp] theorem Pd (x:AV):bB Tryz.prog 410 x 0=bk x 0:=cQ (k:=0) (ft:=3) (off:=0) (n:=0) Tryz.underlying410 rfl rfl J8 rfl x
@[simp] theorem Pe (x:AV):bB Tryz.prog 410 x 1=bk x 1:=cQ (k:=1) (ft:=4) (off:=1) (n:=0) Tryz.underlying410 rfl rfl Pu rfl x
@[simp] theorem Q6 (ps:List (Nat×AV)):d5 Tryz.prog 410 ps=(aD (fun i=>([(0,1),(1,1)]:List (Nat×Nat))[i]?) ([.int .i64 0,.bool false]) ps).map .agg:=pV [(0,1),(1,1)] OU Tryz.underlying410 (by simp) ps
end Go.Proofs.Ev
namespace Go.Proofs.Ev
open Go.Proofs
variable {C:bD}
def bQ:List Nat→List Nat→Int
 | a::l,b::m=>if a<b then -1 else if b<a then 1 else bQ l m
 | _,_=>0
theorem DA {a b:List Nat} {k:Nat} (ha:k<a.length) (hb:k<b.length):bQ (a.drop k) (b.drop k)=if a[k]<b[k] then -1 else if b[k]<a[k] then 1 else bQ (a.drop (k+1)) (b.drop (k+1)):=by
 rw [List.drop_eq_getElem_cons ha,List.drop_eq_getElem_cons hb];rfl
theorem nJ (hp:C.prim 36=none) (hq:C.pure 36=true) (a b:List Nat) (ha:a.length=32) (hb:b.length=32):b8 Tryz.prog C 36 [] [.agg (dig a),.agg (dig b)] (.int .i64 (bQ a b)):=by
 refine aw hq fun H=>aj Tryz.func36 rfl hp (by simp) (by kernel_rfl) ?_
 unfold Tryz.f36
 simp [aE,ha,hb]
 refine d8 (fun s H'=>H'=H++[.rows 32 0 [dig a],.rows 32 0 [dig b]]∧s 2=.ptr H.length 0 32 0 0∧s 3=.ptr (H.length+1) 0 32 0 0∧s 4=.int .i64 0∧∃k:Nat,s 5=.int .i64 k∧k≤32∧bQ a b=bQ (a.drop k) (b.drop k)) (fun s _=>32-(match s 5 with | .int _ k=>k.toNat | _=>0)) ?_ ?_
 ·simp
  exact ⟨0,by simp⟩
 rintro s H' ⟨rfl,h2,h3,h4,k,h5,hk,hc⟩
 simp [h2,h3,h4,h5,-iC]
 refine ⟨fun h=>?_,fun h=>?_⟩
 ·have h:k<32:=by omega
  have e1:=CE (l:=a) (k:=k) (by omega)
  have e2:=CE (l:=b) (k:=k) (by omega)
  rw [DA (by omega) (by omega)] at hc
  simp [sI,h,h2,h3,h4,h5,ha,hb,e1,e2,-iC,-List.head?_drop]
  rw [au h (by decide)]
  refine ⟨fun h1=>by rw [hc,if_pos h1],fun h1=>⟨fun h2=>by rw [hc,if_neg (by omega),if_pos h2],fun h2=>⟨⟨k+1,rfl,by omega,by rw [hc,if_neg (by omega),if_neg (by omega)]⟩,by rw [Int.toNat_natCast];exact Nat.sub_lt_sub_left h (Nat.lt_succ_self k)⟩⟩⟩
 ·have h:k=32:=by omega
  subst h
  rw [hc,List.drop_eq_nil_of_le (by omega)];rfl
end Go.Proofs.Ev
namespace Go.Proofs.Ev
open Go.Proofs
structure az (C:bD):Prop where
 prim:∀f,f∉[156,349,406,137,335,92,100,114,143,220,249,140,144,5]→C.prim f=none
 pure:∀f,f∈[118,75,36,268,269,128,270,18,190,191,131,121,329,192]→C.pure f=true
 kDig:C.kinds 25=some (List.replicate 32 (.int .u8))
 kId:C.kinds 27=some (List.replicate 32 (.int .u8)++[.int .i64])
variable {C:bD}
theorem oW (S:az C) (a b:List Nat) (ha:a.length=32) (hb:b.length=32):bP Tryz.prog C .eql 25 (.agg (dig a)) (.agg (dig b))=some (.bool (decide (a=b))):=by
 have h1:=fE a;rw [ha] at h1
 have h2:=fE b;rw [hb] at h2
 simp only [bP,qK,S.kDig,h1,h2,Bool.and_self,if_true,jq a b (by omega)];rfl
theorem ze (S:az C) (a b:aC):bP Tryz.prog C .eql 27 (.agg a.cells) (.agg b.cells)=some (.bool (decide (a.d=b.d)&&a.n==b.n)):=by
 have h1:=fE a.d;rw [a.h] at h1
 have h2:=fE b.d;rw [b.h] at h2
 have key:∀x:aC,di (List.replicate 32 (.int .u8)++[.int .i64]) x.cells=true:=by
  intro x
  have h1:=fE x.d;rw [x.h] at h1
  have KD:∀(l:List LK) (m:List AV),di l m=true→di (l++[.int .i64]) (m++[.int .i64 x.n])=true:=by
   intro l
   induction l with
   | nil=>intro m h;cases m with
    | nil=>rfl
    | cons a m=>simp [di] at h
   | cons k l ih=>intro m h;cases m with
    | nil=>simp [di] at h
    | cons a m=>simp only [List.cons_append,di,Bool.and_eq_true] at h ⊢;exact ⟨h.1,ih m h.2⟩
  exact KD _ _ h1
 have ce:bS a.cells b.cells=(decide (a.d=b.d)&&a.n==b.n):=by
  simp only [aC.cells,iH (show (dig a.d).length=(dig b.d).length by simp [a.h,b.h]),jq a.d b.d (by rw [a.h,b.h]),bS,m6,Bool.and_true]
 simp only [bP,qK,S.kId,key,Bool.and_self,if_true,ce];rfl
def bz (a:List Nat):Bool:=decide (a=aJ)
theorem kv (S:az C) (a:List Nat) (ha:a.length=32):b8 Tryz.prog C 75 [] [.agg (dig a)] (.bool (bz a)):=by
 refine aw (S.pure _ (by decide)) fun H=>aj Tryz.func75 rfl (S.prim _ (by decide)) (by simp) (by kernel_rfl) ?_
 unfold Tryz.f75
 have e:=oW S a aJ ha (by decide)
 simp [aE,ha,List.take_of_length_le,aD,e,bz]
def df (a b:aC):Int:=if bQ a.d b.d=0 then (if a.n<b.n then -1 else if b.n<a.n then 1 else 0) else bQ a.d b.d
theorem Ad (S:az C) (a b:aC):b8 Tryz.prog C 121 [] [.agg a.cells,.agg b.cells] (.int .i64 (df a b)):=by
 refine aw (S.pure _ (by decide)) fun H=>aj Tryz.func121 rfl (S.prim _ (by decide)) (by simp) (by kernel_rfl) ?_
 unfold Tryz.f121
 have e:=(nJ (S.prim _ (by decide)) (S.pure _ (by decide)) a.d b.d a.h b.h).eq
 simp [aE,e,df]
 grind
def nL:aC:=⟨aJ,-1,by decide,by decide⟩
theorem Aj (S:az C):b8 Tryz.prog C 18 [] [] (.agg nL.cells):=by
 refine aw (S.pure _ (by decide)) fun H=>aj Tryz.func18 rfl (S.prim _ (by decide)) (by simp) (by kernel_rfl) ?_
 unfold Tryz.f18
 have e:Ev.dig aM.d++[AV.int .i64 (-1)]=nL.cells:=rfl
 simp [aE,ao,aD,aM.h,e]
 simp [ak,AV.closed,←e,cX,gg,AV.closeds]
def pN (x:aC) (first:Int):Bool:=if bz x.d then decide (0≤x.n)&&decide (x.n<first) else decide (0≤x.n)&&decide (x.n<100000)
theorem Ab (S:az C) (x:aC) (n:Int):b8 Tryz.prog C 329 [] [.agg x.cells,.int .i64 n] (.bool (pN x n)):=by
 refine aw (S.pure _ (by decide)) fun H=>aj Tryz.func329 rfl (S.prim _ (by decide)) (by simp) (by kernel_rfl) ?_
 unfold Tryz.f329
 have e:=(kv S x.d x.h).eq
 simp +contextual [-Bool.not_and,-Bool.not_or,aE,e,an,pN]
def uY (k:Int):Int:=if k=7 then 0 else k
theorem Ht (S:az C) (k:Int):b8 Tryz.prog C 192 [] [.int .i64 k] (.int .i64 (uY k)):=by
 refine aw (S.pure _ (by decide)) fun H=>aj Tryz.func192 rfl (S.prim _ (by decide)) (by simp) (by kernel_rfl) ?_
 unfold Tryz.f192
 simp +contextual [aE,uY]
def lT (k:Int):Bool:=k==5||k==6
theorem Ak (S:az C) (k:Int):b8 Tryz.prog C 190 [] [.int .i64 k] (.bool (lT k)):=by
 refine aw (S.pure _ (by decide)) fun H=>aj Tryz.func190 rfl (S.prim _ (by decide)) (by simp) (by kernel_rfl) ?_
 unfold Tryz.f190
 simp +contextual [-Bool.not_and,-Bool.not_or,aE,an,lT]
def jQ (k:Int) (x:aG):Bool:=if x.kind=1 then (if lT k then x.type==1 else k != 4||x.type==2||x.type==3) else false
theorem qv (S:az C) (k:Int) (x:aG):b8 Tryz.prog C 128 [] [.int .i64 k,.agg x.cells] (.bool (jQ k x)):=by
 refine aw (S.pure _ (by decide)) fun H=>aj Tryz.func128 rfl (S.prim _ (by decide)) (by simp) (by kernel_rfl) ?_
 unfold Tryz.f128
 have e:=(Ak S k).eq
 simp +contextual [-Bool.not_and,-Bool.not_or,aE,an,e,jQ]
def aB (a b:aC):Bool:=decide (a.d=b.d)&&a.n==b.n
def np (f:aC) (x:aG):Bool:=x.kind==5&&aB x.file f
theorem sb (S:az C) (f:aC) (x:aG):b8 Tryz.prog C 191 [] [.agg f.cells,.agg x.cells] (.bool (np f x)):=by
 refine aw (S.pure _ (by decide)) fun H=>aj Tryz.func191 rfl (S.prim _ (by decide)) (by simp) (by kernel_rfl) ?_
 unfold Tryz.f191
 have e:=ze S
 simp +contextual [-Bool.not_and,-Bool.not_or,aE,an,e,np,aB]
def gD (k:Int) (f:aC) (x:aG):Bool:=uY k==0||(x.kind==uY k&&aB x.file f)
theorem qw (S:az C) (k:Int) (f:aC) (x:aG):b8 Tryz.prog C 131 [] [.int .i64 k,.agg f.cells,.agg x.cells] (.bool (gD k f x)):=by
 refine aw (S.pure _ (by decide)) fun H=>aj Tryz.func131 rfl (S.prim _ (by decide)) (by simp) (by kernel_rfl) ?_
 unfold Tryz.f131
 have e:=ze S
 have e2:=(Ht S k).eq
 cases hw:(uY k==0) with
 | true=>simp +contextual [-Bool.not_and,-Bool.not_or,aE,an,e,e2,gD,aB,hw]
 | false=>simp +contextual [-Bool.not_and,-Bool.not_or,aE,an,e,e2,gD,aB,hw]
def mJ (own:List aG) (x:aC):aG:=if bz x.d&&decide (0≤x.n)&&decide (x.n<own.length) then own.getD x.n.toNat bV else bV
theorem JP (S:az C) (own:List aG) (k:SK) (x:aC):b8 Tryz.prog C 270 [] [am k (own.map aG.cells),.agg x.cells] (.agg (mJ own x).cells):=by
 refine aw (S.pure _ (by decide)) fun H=>aj Tryz.func270 rfl (S.prim _ (by decide)) (by simp) (by kernel_rfl) ?_
 unfold Tryz.f270
 have e:=(kv S x.d x.h).eq
 cases hx:(bz x.d&&decide (0≤x.n)&&decide (x.n<(own.length:Int))) with
 | true =>
  have hx2:=hx
  simp only [Bool.and_eq_true,decide_eq_true_eq] at hx2
  have hlt:x.n.toNat<own.length:=by omega
  simp [-Bool.not_and,-Bool.not_or,aE,an,e,ao,hx2,hlt,mJ,ak,AV.closed]
 | false =>
  simp +contextual [-Bool.not_and,-Bool.not_or,aE,an,e,ao,aD,hx,mJ,ak,AV.closed]
def sC (x:aC) (n:Int) (fits:Bool):Int:=if pN x n then (if bz x.d&&!fits then 8 else 0) else 7
theorem JS (S:az C) (own:List aG) (k:SK) (x:aC) (fits:Bool):b8 Tryz.prog C 269 [] [.agg x.cells,am k (own.map aG.cells),.bool fits] (.int .i64 (sC x own.length fits)):=by
 refine aw (S.pure _ (by decide)) fun H=>aj Tryz.func269 rfl (S.prim _ (by decide)) (by simp) (by kernel_rfl) ?_
 unfold Tryz.f269
 have e:=(kv S x.d x.h).eq
 have e2:=(Ab S x own.length).eq
 simp +contextual [-Bool.not_and,-Bool.not_or,aE,an,e,e2,sC]
end Go.Proofs.Ev
namespace Go.Proofs.Ev
open Go.Proofs
variable {P:Program} {C:bD}
def ox (c:UInt8):Bool:=(decide (97≤(c.toNat:Int))&&decide ((c.toNat:Int)≤122))||(decide (65≤(c.toNat:Int))&&decide ((c.toNat:Int)≤90))||(decide (48≤(c.toNat:Int))&&decide ((c.toNat:Int)≤57))||(c.toNat:Int)==46||(c.toNat:Int)==95||(c.toNat:Int)==45
def ql (s:List UInt8):Bool:=s.all ox&&(decide (1≤(s.length:Int))&&decide ((s.length:Int)≤40)&&!s==[46]&&!s==[46,46])
theorem yD {p:UInt8→Bool} {l:List UInt8} {k:Nat} (h:k<l.length):(l.take (k+1)).all p=((l.take k).all p&&p l[k]):=by
 rw [List.take_succ_eq_append_getElem h,List.all_append];simp
theorem Cw {p:UInt8→Bool} {l:List UInt8} {k:Nat} (h:k<l.length) (hp:p l[k]=false):l.all p=false:=by
 rw [List.all_eq_false];exact ⟨l[k],List.getElem_mem h,by simp [hp]⟩
theorem Ah (hp:C.prim 118=none) (hq:C.pure 118=true) (l:List UInt8) (hl:l.length≤2^40):b8 Tryz.prog C 118 [] [.str l] (.bool (ql l)):=by
 refine aw hq fun H=>aj Tryz.func118 rfl hp (by simp) (by kernel_rfl) ?_
 unfold Tryz.f118
 simp [aE]
 refine d8 (fun s H'=>H'=H∧s 0=.str l∧∃k:Nat,s 3=.int .i64 k∧k≤l.length∧(l.take k).all ox=true) (fun s _=>l.length-(match s 3 with | .int _ k=>k.toNat | _=>0)) ?_ ?_
 ·exact ⟨rfl,rfl,0,rfl,by simp⟩
 rintro s H' ⟨rfl,h0,k,h3,hk,hc⟩
 simp [h0,h3,-iC]
 refine ⟨fun h=>?_,fun h=>?_⟩
 ·have e1:=yD (p:=ox) h
  rw [hc,Bool.true_and] at e1
  have e2:ox l[k]=false→ql l=false:=fun h2=>by simp [ql,Cw h h2]
  simp +contextual [-Bool.not_and,-Bool.not_or,-iC,sI,h,an,h0,h3,au h (by omega)]
  cases hn:ox l[k] with
  | true =>
   rw [hn] at e1
   simp only [ox,Bool.or_eq_true,Bool.and_eq_true,decide_eq_true_eq,beq_iff_eq] at hn
   exact ⟨fun _=>⟨⟨k+1,by simp,by omega,by simpa using e1⟩,Nat.sub_lt_sub_left h (Nat.lt_succ_self k)⟩,fun a b c d e f=>by
    rcases hn with ((((⟨x,y⟩ | ⟨x,y⟩) | ⟨x,y⟩) | x) | x) | x<;>first | omega | (have:=a x;omega) | (have:=b x;omega) | (have:=c x;omega)⟩
  | false =>
   refine ⟨fun a=>absurd hn ?_,fun _ _ _ _ _ _=>e2 hn⟩
   simp only [ox,Bool.not_eq_false,Bool.or_eq_true,Bool.and_eq_true,decide_eq_true_eq,beq_iff_eq]
   exact a
 ·have h:k=l.length:=by omega
  subst h
  rw [List.take_length] at hc
  simp +contextual [-Bool.not_and,-Bool.not_or,h0,an]
  simp only [ql,hc,Bool.true_and]
end Go.Proofs.Ev
namespace Go.Proofs.Ev
open Go.Proofs
variable {C:bD}
structure dJ (C:bD):Prop extends az C where
 pure2:∀f,f∈[327,266,265,177,267,328,383]→C.pure f=true
 frz2:∀f,f∈[178]→C.pure f=false∧C.frz f=true
theorem Ai (S:dJ C):b8 Tryz.prog C 327 [] [] (.agg aM.cells):=by
 refine aw (S.pure2 _ (by decide)) fun H=>aj Tryz.func327 rfl (S.prim _ (by decide)) (by simp) (by kernel_rfl) ?_
 unfold Tryz.f327
 simp [aE,ao,aD,ak,AV.closed]
def oE (c:aW):aW:=if 2≤c.kind∧c.kind≤6 then { c with file:=aM } else c
def oF (c:aW):aW:=if c.kind≠1∧c.kind≠5 then { c with over:=[],overK:=.nil } else c
def oG (c:aW):aW :=
 if c.kind=1 then { c with type:=0 } else if c.kind=2 then { c with parent:=aM,name:=[] } else if c.kind=3 then { c with mode:=0 }
 else if c.kind=4 then { c with data:=[] } else if c.kind=5 then { c with after:=aM,before:=aM,lines:=[],linesK:=.nil }
 else if c.kind=6 then { c with after:=aM,before:=aM } else c
def kr (c:aW):aW:=oG (oF (oE c))
theorem Hm (S:dJ C) (c:aW):b8 Tryz.prog C 266 [] [.agg c.cells] (.agg (kr c).cells):=by
 refine aw (S.pure2 _ (by decide)) fun H=>aj Tryz.func266 rfl (S.prim _ (by decide)) (by simp) (by kernel_rfl) ?_
 unfold Tryz.f266
 have e:=(Ai S).eq
 have hk:c.kind=1∨c.kind=2∨c.kind=3∨c.kind=4∨c.kind=5∨c.kind=6∨(¬(2≤c.kind∧c.kind≤6)∧c.kind≠1∧c.kind≠2∧c.kind≠3∧c.kind≠4∧c.kind≠5∧c.kind≠6):=by omega
 rcases hk with hk | hk | hk | hk | hk | hk | ⟨h0,h1,h2,h3,h4,h5,h6⟩
 ·simp [aE,an,e,ao,aD,kr,oE,oF,oG,ak,AV.closed,hk]
 ·simp [aE,an,e,ao,aD,kr,oE,oF,oG,ak,AV.closed,hk]
 ·simp [aE,an,e,ao,aD,kr,oE,oF,oG,ak,AV.closed,hk]
 ·simp [aE,an,e,ao,aD,kr,oE,oF,oG,ak,AV.closed,hk]
 ·simp [aE,an,e,ao,aD,kr,oE,oF,oG,ak,AV.closed,hk]
 ·simp [aE,an,e,ao,aD,kr,oE,oF,oG,ak,AV.closed,hk]
 ·have h7:(decide (2≤c.kind)&&decide (c.kind≤6))=false:=by simpa using h0
  simp +contextual [-Bool.not_and,-Bool.not_or,aE,an,e,ao,aD,kr,oE,oF,oG,ak,AV.closed,h0,h1,h2,h3,h4,h5,h6,h7]
def ri (a:aC):Bool:=aB a aM
def oU (c:aW):Bool:=ri c.file&&c.type==0&&ri c.parent&&c.name==[]&&c.mode==0&&c.data==[]&&ri c.after&&ri c.before&&(c.lines.length:Int)==0&&(c.over.length:Int)==0
set_option maxRecDepth 100000 in
set_option maxHeartbeats 2000000 in
theorem EL (S:dJ C) (c:aW):b8 Tryz.prog C 265 [] [.agg c.cells] (.bool (oU c)):=by
 refine aw (S.pure2 _ (by decide)) fun H=>aj Tryz.func265 rfl (S.prim _ (by decide)) (by simp) (by kernel_rfl) ?_
 unfold Tryz.f265
 have e:=(Ai S).eq
 have e2:=ze S.toaz
 simp +contextual [-Bool.not_and,-Bool.not_or,aE,an,e,e2,oU,ri,aB]
end Go.Proofs.Ev
namespace Go.Proofs.Ev
open Go.Proofs
variable {C:bD}
theorem rr {n k:Nat} (h:k<n):n-(k+1)<n-k:=Nat.sub_lt_sub_left h (Nat.lt_succ_self k)
def Jl (a b:Int) (c:UInt8):Bool:=!((c.toNat:Int)==a||(c.toNat:Int)==b)
theorem EJ (S:dJ C) (l:List UInt8) (a b:Int) (hl:l.length≤2^40):b8 Tryz.prog C 383 [] [.str l,.int .u8 a,.int .u8 b] (.bool (l.all (Jl a b))):=by
 refine aw (S.pure2 _ (by decide)) fun H=>aj Tryz.func383 rfl (S.prim _ (by decide)) (by simp) (by kernel_rfl) ?_
 unfold Tryz.f383
 simp [aE]
 refine d8 (fun s H'=>H'=H∧s 0=.str l∧s 1=.int .u8 a∧s 2=.int .u8 b∧∃k:Nat,s 7=.int .i64 k∧k≤l.length∧(l.take k).all (Jl a b)=true) (fun s _=>l.length-(match s 7 with | .int _ k=>k.toNat | _=>0)) ?_ ?_
 ·exact ⟨rfl,rfl,rfl,rfl,0,rfl,by simp⟩
 rintro s H' ⟨rfl,h0,h1,h2,k,h3,hk,hc⟩
 simp [h0,h1,h2,h3]
 refine ⟨fun h=>?_,fun h=>?_⟩
 ·have e1:=yD (p:=Jl a b) h
  rw [hc,Bool.true_and] at e1
  have e2:=Cw (p:=Jl a b) h
  cases hn:Jl a b l[k] with
  | true =>
   rw [hn] at e1
   have hn2:=hn
   simp only [Jl,Bool.not_eq_true',Bool.or_eq_false_iff] at hn2
   simp +contextual [-Bool.not_and,-Bool.not_or,-List.all_eq_true,h,an,h0,h1,h2,h3,au h (by omega),hn2.1,hn2.2]
   exact ⟨⟨k+1,by simp,by omega,by simpa using e1⟩,rr h⟩
  | false =>
   have hn2:=hn
   simp only [Jl,Bool.not_eq_false'] at hn2
   rw [e2 hn]
   simp +contextual [-Bool.not_and,-Bool.not_or,-List.all_eq_true,h,an,h0,h1,h2,h3,hn2]
 ·have h:k=l.length:=by omega
  subst h
  rw [List.take_length] at hc
  exact List.all_eq_true.1 hc
def kE (l:List UInt8):Bool:=decide ((l.length:Int)≤1000)&&l.all (Jl 10 0)
theorem EW (S:dJ C) (l:List UInt8) (hl:l.length≤2^40):b8 Tryz.prog C 328 [] [.str l] (.bool (kE l)):=by
 refine aw (S.pure2 _ (by decide)) fun H=>aj Tryz.func328 rfl (S.prim _ (by decide)) (by simp) (by kernel_rfl) ?_
 unfold Tryz.f328
 have e:=(EJ S l 10 0 hl).eq
 simp +contextual [-Bool.not_and,-Bool.not_or,-List.all_eq_true,aE,an,e,kE]
def mq (l:List (List UInt8)):Int:=if l.length=0 then 1 else if 2000<l.length then 4 else if l.all kE then 0 else 3
theorem EV (S:dJ C) (l:List (List UInt8)) (k:SK) (hl:∀x∈l,x.length≤2^40):b8 Tryz.prog C 267 [] [am k (l.map fX)] (.int .i64 (mq l)):=by
 refine aw (S.pure2 _ (by decide)) fun H=>aj Tryz.func267 rfl (S.prim _ (by decide)) (by simp) (by kernel_rfl) ?_
 unfold Tryz.f267
 simp [aE]
 refine ⟨fun h=>by simp [mq,h],fun hne=>⟨fun h=>by simp [mq,hne,show 2000<l.length by omega],fun hle=>?_⟩⟩
 have hle:l.length≤2000:=by omega
 refine d8 (fun s H'=>H'=H∧s 0=am k (l.map fX)∧∃k:Nat,s 3=.int .i64 k∧k≤l.length∧(l.take k).all kE=true) (fun s _=>l.length-(match s 3 with | .int _ k=>k.toNat | _=>0)) ?_ ?_
 ·exact ⟨rfl,rfl,0,rfl,by simp⟩
 rintro s H' ⟨rfl,h0,j,h3,hk,hc⟩
 simp [h0,h3]
 refine ⟨fun h=>?_,fun h=>?_⟩
 ·have e:=(EW S l[j] (hl _ (List.getElem_mem h))).eq
  have hn0:mq l=if l.all kE then 0 else 3:=by simp only [mq,if_neg (show ¬l.length=0 by simpa using hne),if_neg (show ¬2000<l.length by omega)]
  cases hn:kE l[j] with
  | true =>
   have e1:(l.take (j+1)).all kE=true:=by rw [List.take_succ_eq_append_getElem h,List.all_append,hc];simp [hn]
   rw [hn] at e
   simp [-List.all_eq_true,h,h0,h3,fX,e,au h (by omega)]
   exact ⟨⟨j+1,by simp,by omega,by simpa using e1⟩,rr h⟩
  | false =>
   rw [hn] at e
   have e1:l.all kE=false:=by rw [List.all_eq_false];exact ⟨l[j],List.getElem_mem h,by simp [hn]⟩
   simp [-List.all_eq_true,h,h0,h3,fX,e,hn0,e1]
 ·have h:j=l.length:=by omega
  subst h
  rw [List.take_length] at hc
  simp [mq,hne,hc,show ¬2000<l.length by omega]
def pR:List aC→Bool
 | a::b::l=>decide (df a b<0)&&pR (b::l)
 | _=>true
theorem FH {l:List aC} {k:Nat} (hk:k+1<l.length):pR (l.drop k)=(decide (df l[k] l[k+1]<0)&&pR (l.drop (k+1))):=by
 rw [List.drop_eq_getElem_cons (show k<l.length by omega),List.drop_eq_getElem_cons hk];rfl
theorem IB {l:List aC} {k:Nat} (hk:l.length≤k+1):pR (l.drop k)=true:=by
 have:(l.drop k).length≤1:=by simp;omega
 generalize l.drop k=m at this
 match m,this with
 | [],_=>rfl
 | [_],_=>rfl
theorem JL (S:dJ C) (l:List aC) (K:SK) (hl:l.length≤2^40):b8 Tryz.prog C 268 [] [am K (l.map aC.cells)] (.bool (pR l)):=by
 refine aw (S.pure _ (by decide)) fun H=>aj Tryz.func268 rfl (S.prim _ (by decide)) (by simp) (by kernel_rfl) ?_
 unfold Tryz.f268
 simp [aE]
 refine d8 (fun s H'=>H'=H∧s 0=am K (l.map aC.cells)∧∃k:Nat,s 3=.int .i64 ((k:Int)+1)∧k≤l.length∧pR l=pR (l.drop k)) (fun s _=>l.length+1-(match s 3 with | .int _ k=>k.toNat | _=>0)) ?_ ?_
 ·exact ⟨rfl,rfl,0,rfl,by simp⟩
 rintro s H' ⟨rfl,h0,k,h3,hk,hc⟩
 simp [h0,h3]
 refine ⟨fun hh=>?_,fun h=>?_⟩
 ·have h:k+1<l.length:=by omega
  have e:=(Ad S.toaz l[k] l[k+1]).eq
  have w1:IntKind.i64.wrap (k:Int)=(k:Int):=iV (by omega)
  have w2:IntKind.i64.wrap ((k:Int)+1+1)=((k+1:Nat):Int)+1:=by rw [aO (by omega) (by omega)];omega
  have hk0:k<l.length:=by omega
  have t1:((k:Int)+1).toNat=k+1:=by omega
  have t2:(0:Int)≤(k:Int)+1:=by omega
  rw [FH h] at hc
  simp [h,hh,h0,h3,e,w1,w2,t1,t2,hk0]
  refine ⟨fun h4=>?_,fun h4=>⟨⟨k+1,by simp,by omega,?_⟩,?_⟩⟩
  ·rw [hc];simp;omega
  ·rw [hc];simp [h4]
  ·rw [show ((k:Int)+1+1).toNat=k+2 by omega];omega
 ·rw [IB (by omega)] at hc
  exact hc
end Go.Proofs.Ev
namespace Go.Proofs.Ev
open Go.Proofs
variable {C:bD}
structure aW.Ok (c:aW):Prop where
 name:c.name.length≤2^40
 data:c.data.length≤2^40
 lines:∀x∈c.lines,x.length≤2^40
 linesN:c.lines.length≤2^40
 overN:c.over.length≤2^40
def gW (c:aW):Int :=
 if (decide (c.kind<1)||decide (7<c.kind))=true then 8
 else if oU (kr c)=false then 1
 else if (c.kind==1&&(decide (c.type<1)||decide (4<c.type)))=true then 8
 else if (c.kind==2&&!ql c.name)=true then 5
 else if (c.kind==3&&(decide (c.mode<0)||decide (511<c.mode)))=true then 2
 else if 65536<(c.data.length:Int) then 4
 else if c.kind=5 then mq c.lines
 else if (c.kind==7&&(c.over.length:Int)==0)=true then 1
 else if 400<(c.over.length:Int) then 4
 else if pR c.over=false then 9 else 0
set_option maxRecDepth 100000 in
set_option maxHeartbeats 2000000 in
theorem Ca (S:dJ C) (c:aW) (hc:c.Ok):b8 Tryz.prog C 177 [] [.agg c.cells] (.int .i64 (gW c)):=by
 refine aw (S.pure2 _ (by decide)) fun H=>aj Tryz.func177 rfl (S.prim _ (by decide)) (by simp) (by kernel_rfl) ?_
 unfold Tryz.f177
 have e1:=(Hm S c).eq
 have e2:=(EL S (kr c)).eq
 have e3:=(Ah (S.prim _ (by decide)) (S.pure _ (by decide)) c.name hc.name).eq
 have e4:=(EV S c.lines c.linesK hc.lines).eq
 have e5:=(JL S c.over c.overK hc.overN).eq
 simp +contextual [-Bool.not_and,-Bool.not_or,aE,an,e1,e2,e3,e4,e5]
 simp only [gW,Bool.or_eq_true,Bool.and_eq_true,decide_eq_true_eq,beq_iff_eq,Bool.not_eq_true',Int.natCast_eq_zero,List.length_eq_zero_iff]
 clear e1 e2 e3 e4 e5
 repeat' (first | (refine And.intro ?_ ?_) | intro _)
 all_goals grind
end Go.Proofs.Ev
namespace Go.Proofs.Ev
open Go.Proofs
variable {C:bD}
def EC (c:aW) (own:List aG):Int:=if 2≤c.kind∧c.kind≤6 then sC c.file own.length (jQ c.kind (mJ own c.file)) else 0
def ED (c:aW) (own:List aG):Int:=if c.kind=2∧aB c.parent nL=false then sC c.parent own.length ((mJ own c.parent).kind==1&&(mJ own c.parent).type==4) else 0
def ko (c:aW) (own:List aG) (x:aC):Int:=sC x own.length (aB x c.file||np c.file (mJ own x))
def fT (c:aW) (own:List aG):List aC→Int
 | []=>0
 | x::l=>if sC x own.length (gD c.kind c.file (mJ own x))=0 then fT c own l else sC x own.length (gD c.kind c.file (mJ own x))
def xZ (c:aW) (own:List aG):Int:=if lT c.kind=true then (if ko c own c.after=0 then ko c own c.before else ko c own c.after) else 0
def JE (c:aW):Int:=if c.kind=2∧aB c.parent c.file=true then 20 else if lT c.kind=true∧aB c.after c.before=true∧(c.kind=6∨aB c.after c.file=false) then 1 else 0
def lJ (c:aW) (own:List aG):Int:=if EC c own≠0 then EC c own else if ED c own≠0 then ED c own else if xZ c own≠0 then xZ c own else if fT c own c.over≠0 then fT c own c.over else JE c
def og (c:aW) (own:List aG) (K:SK) (H:ae) (s:Sl) (H':ae):Prop:=s 1=am K (own.map aG.cells)∧s 2=.ptr H.length 0 139 0 0∧s 4=.int .i64 0∧∃J,H'=H++(.rows 139 0 [c.cells]::J)
theorem jv {P:Program} {t:TypeId} {x y:List AV} {b:Bool} (h:bP P C .eql t (.agg x) (.agg y)=some (.bool b)):bP P C .neq t (.agg x) (.agg y)=some (.bool !b):=by
 simp only [bP] at h ⊢
 cases he:qK P C t (.agg x) (.agg y) with
 | none=>rw [he] at h;cases h
 | some z=>rw [he] at h;simp only [Option.map_some,Option.some.injEq,AV.bool.injEq] at h;subst h;rfl
set_option maxRecDepth 100000 in
set_option maxHeartbeats 2000000 in
theorem uJ (S:dJ C) (c:aW) (own:List aG) (K:SK) (hc:c.Ok):sq Tryz.prog C 178 [.agg c.cells,am K (own.map aG.cells)] (.int .i64 (lJ c own)):=by
 refine lN (S.frz2 _ (by decide)).1 (S.frz2 _ (by decide)).2 rfl fun H=>aj Tryz.func178 rfl (S.prim _ (by decide)) (by simp) (by kernel_rfl) ?_
 unfold Tryz.f178
 have g1:=fun x=>(JP S.toaz own K x).eq
 have g2:=fun k x=>(qv S.toaz k x).eq
 have g3:=fun x b=>(JS S.toaz own K x b).eq
 have g4:=(Aj S.toaz).eq
 have g5:=fun k=>(Ak S.toaz k).eq
 have g6:=fun f x=>(sb S.toaz f x).eq
 have g7:=fun k f x=>(qw S.toaz k f x).eq
 have e:=fun a b=>(ze S.toaz a b).trans (show _=some (.bool (aB a b)) from rfl)
 have en:=fun a b=>jv (e a b)
 refine cut (fun s H'=>og c own K H s H') ?_ ?_
 ·simp [aE,og]
 rintro s H' ⟨h1,h2,h4,J,rfl⟩
 refine cut (fun s H'=>og c own K H s H'∧EC c own=0) ?_ ?_
 ·simp +contextual [-Bool.not_and,-Bool.not_or,h1,h2,h4,an,g1,g2,g3,og,lJ,EC]
  try omega
 ·rintro s H' ⟨⟨h1,h2,h4,J,rfl⟩,hr1⟩
  refine cut (fun s H'=>og c own K H s H'∧ED c own=0) ?_ ?_
  ·simp +contextual [-Bool.not_and,-Bool.not_or,h1,h2,h4,an,g1,g2,g3,g4,en,ao,aD,og,lJ,ED,hr1]
  rintro s H' ⟨⟨h1,h2,h4,J,rfl⟩,hr2⟩
  refine cut (fun s H'=>og c own K H s H'∧xZ c own=0) ?_ ?_
  ·cases htx:lT c.kind with
   | false=>simp [h1,h2,h4,an,g5,htx,og,xZ]
   | true =>
    simp [h1,h2,h4,an,g5,htx,ah,aq]
    refine d8 (fun s H'=>og c own K H s H'∧s 8=.lst [c.after.cells,c.before.cells] true∧∃k:Nat,s 9=.int .i64 k∧k≤2∧(1≤k→ko c own c.after=0)∧(2≤k→ko c own c.before=0)) (fun s _=>2-(match s 9 with | .int _ k=>k.toNat | _=>0)) ?_ ?_
    ·exact ⟨⟨h1,h2,h4,J,rfl⟩,rfl,0,rfl,by omega,by omega,by omega⟩
    rintro s H' ⟨⟨h1,h2,h4,J,rfl⟩,h8,k,h9,hk,ha,hb⟩
    have hk:k=0∨k=1∨k=2:=by omega
    rcases hk with rfl | rfl | rfl
    ·simp +contextual [-Bool.not_and,-Bool.not_or,h1,h2,h4,h8,h9,an,g1,g3,g6,e,og,lJ,xZ,htx,hr1,hr2,ko,show IntKind.i64.wrap 1=1 from rfl]
     intro h0
     exact ⟨1,rfl,by omega,by omega⟩
    ·have ha:=ha (by omega)
     simp only [ko] at ha
     simp +contextual [-Bool.not_and,-Bool.not_or,h1,h2,h4,h8,h9,an,g1,g3,g6,e,og,lJ,xZ,htx,hr1,hr2,ko,ha,show IntKind.i64.wrap (1+1)=2 from rfl,show IntKind.i64.wrap 2=2 from rfl]
     exact fun _=>⟨2,rfl,by omega⟩
    ·have ha:=ha (by omega)
     have hb:=hb (by omega)
     simp [h1,h2,h4,h8,h9,og,xZ,htx,ha,hb]
  ·rintro s H' ⟨⟨h1,h2,h4,J,rfl⟩,hr3⟩
   refine cut (fun s H'=>og c own K H s H'∧fT c own c.over=0) ?_ ?_
   ·simp
    refine d8 (fun s H'=>og c own K H s H'∧∃k:Nat,s 11=.int .i64 k∧k≤c.over.length∧fT c own c.over=fT c own (c.over.drop k)) (fun s _=>c.over.length-(match s 11 with | .int _ k=>k.toNat | _=>0)) ?_ ?_
    ·exact ⟨⟨h1,h2,h4,J,rfl⟩,0,rfl,by omega,rfl⟩
    rintro s H' ⟨⟨h1,h2,h4,J,rfl⟩,k,h11,hk,hv⟩
    simp [h1,h2,h4,h11]
    refine ⟨fun h=>?_,fun h=>?_⟩
    ·have hov:=hc.overN
     rw [List.drop_eq_getElem_cons h] at hv
     simp only [fT] at hv
     simp +contextual [-Bool.not_and,-Bool.not_or,h,h1,h2,h4,h11,an,g1,g3,g7,og,lJ,hr1,hr2,hr3,au h (by omega)]
     refine ⟨fun h5=>?_,fun h5=>⟨⟨k+1,by simp,by omega,?_⟩,rr h⟩⟩
     ·rw [hv,if_neg h5,if_neg h5]
     ·rw [hv,if_pos h5]
    ·have h:k=c.over.length:=by omega
     subst h
     rw [List.drop_length] at hv
     simp [h1,h2,h4,og,hv,fT]
   ·rintro s H' ⟨⟨h1,h2,h4,J,rfl⟩,hr4⟩
    simp +contextual [-Bool.not_and,-Bool.not_or,h1,h2,h4,an,g5,e,en,lJ,hr1,hr2,hr3,hr4,JE]
    grind
end Go.Proofs.Ev
