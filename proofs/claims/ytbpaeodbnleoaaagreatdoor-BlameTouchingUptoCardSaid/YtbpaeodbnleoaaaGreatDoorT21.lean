/- Part 21 of the proof that quiltlaw38.BlameTouching returns true: no statement of its own. -/
import Derived.Test.YtbpaeodbnleoaaaGreatDoorT20
import Derived.Test.YtbpaeodbnleoaaaGreatDoorT19
import Derived.Test.YtbpaeodbnleoaaaGreatDoorT14
import Derived.Test.YtbpaeodbnleoaaaGreatDoorT9
import Derived.Lib.Overlaps
import Derived.Shelf.RegionOpen
import Derived.Test.YtbpaeodbnleoaaaGreatDoorT0
set_option linter.all false
namespace Go.Proofs.Ev
open Go.Proofs Go.Sort Go.RowKit
structure fX where
 f:Int
 t:Int
 deriving DecidableEq,Inhabited
def fX.cells (e:fX):List AV:=[.int .i64 e.f,.int .i64 e.t]
def PO (a b:Int):Int:=if a=0 then b else a
def QT (v:Value):Nat:=match v with | .int _ n=>n.toNat | _=>0
theorem Jg (a b:Int) (blk c:Nat) (w:World) (h0:w.cell? ⟨blk,0,none⟩=some (.int .i64 a)) (h1:w.cell? ⟨blk,1,none⟩=some (.int .i64 b)) :
 CallsIn (Fw none) 0 Tryz.prog 64 #[.slice (some ⟨blk,0,none⟩) 2 c] w fun e w'=>e=.returned (.int .i64 (PO a b))∧w'=w:=by
 refine callsIn_of_wp Tryz.func64 rfl trivial ?_ rfl
 have hn:Tryz.f64.ntmps=18:=rfl
 simp only [hn,List.size_toArray,List.length_cons,List.length_nil,Nat.reduceAdd,Nat.reduceSub,Array.replicate_succ,Array.replicate_zero,List.push_toArray,List.append_toArray,List.nil_append,List.cons_append]
 gi_wp2
 gi_loop [8] (fun v=>v=.int .i64 0∨(v=.int .i64 1∧a=0)∨(v=.int .i64 2∧a=0∧b=0)) (fun v=>2-QT v)
 case atStart=>exact .inl rfl
 case round =>
  have rr:∀x:Int,¬x=0→(x != 0)=true:=fun x h=>by simpa using h
  rcases hrel with rfl | ⟨rfl,rfl⟩ | ⟨rfl,rfl,rfl⟩
  ·gi_wp2
   ·rename_i h _
    go_ret
    have h':¬a=0:=by simpa using h
    exact ⟨by rw [PO,if_neg h'];rfl,rfl⟩
   ·rename_i h
    have h':a=0:=by simpa using h
    exact ⟨.inr (.inl ⟨rfl,h'⟩),by decide⟩
  ·gi_wp2
   ·rename_i h _
    go_ret
    exact ⟨rfl,rfl⟩
   ·rename_i h
    have h':b=0:=by simpa using h
    exact ⟨.inr (.inr ⟨rfl,by trivial,h'⟩),by decide⟩
  ·gi_wp2
   go_ret
   exact ⟨rfl,rfl⟩
theorem yI (W:World) (c:Array Value) (T:TypeId) (i:Nat):((W.alloc (Obj.cells c T)).drew).cell? ⟨W.heap.size,i,none⟩=c[i]?:=by
 have h:((W.alloc (Obj.cells c T)).drew).heap[W.heap.size]?=some (Obj.cells c T):=be
 simp only [World.cell?,h];rfl
def sI (x y:fX):Int:=PO (ia x.f y.f) (ia x.t y.t)
set_option maxRecDepth 100000 in
set_option maxHeartbeats 4000000 in
theorem D1 (x y:fX) (w:World) :
 CallsIn (Fw none) 0 Tryz.prog 27 #[.agg #[.int .i64 x.f,.int .i64 x.t],.agg #[.int .i64 y.f,.int .i64 y.t]] w fun e w'=>e=.returned (.int .i64 (sI x y))∧∃q os,w'=grow (w.drewN q) os:=by
 refine callsIn_of_wp Tryz.func27 rfl trivial ?_ rfl
 have mixed:Tryz.prog.follows .mixedOrders=true:=by kernel_rfl
 have hn:Tryz.f27.ntmps=17:=rfl
 simp only [hn,List.size_toArray,List.length_cons,List.length_nil,Nat.reduceAdd,Nat.reduceSub,Array.replicate_succ,Array.replicate_zero,List.push_toArray,List.append_toArray,List.nil_append,List.cons_append]
 gi_wp2
 generalize hW:(w.alloc (Obj.cells #[.int .i64 x.f,.int .i64 x.t] 51)).alloc (Obj.cells #[.int .i64 y.f,.int .i64 y.t] 51)=W
 have e1:W.heap[w.heap.size]?=some (.cells #[.int .i64 x.f,.int .i64 x.t] 51 (0,0)):=by
  rw [←hW];exact (aX (by simp)).trans be
 have e2:W.heap[w.heap.size+1]?=some (.cells #[.int .i64 y.f,.int .i64 y.t] 51 (0,0)):=by
  rw [←hW]
  have:=be (w:=w.alloc (Obj.cells #[.int .i64 x.f,.int .i64 x.t] 51)) (o:=Obj.cells #[.int .i64 y.f,.int .i64 y.t] 51)
  simpa using this
 have c1:W.cell? ⟨w.heap.size,0,none⟩=some (.int .i64 x.f):=by simp [World.cell?,e1]
 have c2:W.cell? ⟨w.heap.size,1,none⟩=some (.int .i64 x.t):=by simp [World.cell?,e1]
 have c3:W.cell? ⟨w.heap.size+1,0,none⟩=some (.int .i64 y.f):=by simp [World.cell?,e2]
 have c4:W.cell? ⟨w.heap.size+1,1,none⟩=some (.int .i64 y.t):=by simp [World.cell?,e2]
 have fin:∃q os,(W.alloc (Obj.cells #[Value.int IntKind.i64 (ia x.f y.f),Value.int IntKind.i64 (ia x.t y.t)] 3)).drew=grow (w.drewN q) os:=by
  refine ⟨1,#[Obj.cells #[.int .i64 x.f,.int .i64 x.t] 51,Obj.cells #[.int .i64 y.f,.int .i64 y.t] 51,Obj.cells #[Value.int IntKind.i64 (ia x.f y.f),Value.int IntKind.i64 (ia x.t y.t)] 3],?_⟩
  rw [←hW]
  have h:∀o1 o2 o3,((w.heap.push o1).push o2).push o3=w.heap++#[o1,o2,o3]:=fun o1 o2 o3=>by apply Array.ext';simp
  show ({ w with heap:=_,drawn:=w.drawn+1 }:World)={ w with heap:=w.heap++_,drawn:=w.drawn+1 }
  rw [←h];rfl
 gi_region_with_o (first
  | (gi_at_call 65;refine (rX _ _ _).mono ?_;rintro e w' ⟨rfl,rfl⟩)
  | (gi_at_call 64;refine (Jg _ _ _ _ _ (yI _ _ _ 0) (yI _ _ _ 1)).mono ?_;rintro e w' ⟨rfl,rfl⟩))
 all_goals first
  | (gi_wp2;go_ret;exact ⟨rfl,fin⟩)
  | (go_ret;exact ⟨rfl,fin⟩)
  | skip
theorem p9 (a b:Int):(a<b∧ia a b = -1)∨(a=b∧ia a b=0)∨(b<a∧ia a b=1):=by
 unfold ia
 by_cases h:a<b
 ·exact .inl ⟨h,if_pos h⟩
 ·by_cases h2:b<a
  ·exact .inr (.inr ⟨h2,by rw [if_neg h,if_pos h2]⟩)
  ·exact .inr (.inl ⟨by omega,by rw [if_neg h,if_neg h2]⟩)
theorem jj (x y:fX):((x.f<y.f∨x.f=y.f∧x.t<y.t)∧sI x y = -1)∨(x.f=y.f∧x.t=y.t∧sI x y=0)∨((y.f<x.f∨x.f=y.f∧y.t<x.t)∧sI x y=1):=by
 unfold sI PO
 rcases p9 x.f y.f with ⟨h1,h2⟩ | ⟨h1,h2⟩ | ⟨h1,h2⟩
 ·rw [h2,if_neg (by decide)];exact .inl ⟨.inl h1,rfl⟩
 ·rw [h2,if_pos rfl]
  rcases p9 x.t y.t with ⟨h3,h4⟩ | ⟨h3,h4⟩ | ⟨h3,h4⟩
  ·exact .inl ⟨.inr ⟨h1,h3⟩,h4⟩
  ·exact .inr (.inl ⟨h1,h3,h4⟩)
  ·exact .inr (.inr ⟨.inr ⟨h1,h3⟩,h4⟩)
 ·rw [h2,if_neg (by decide)];exact .inr (.inr ⟨.inl h1,rfl⟩)
theorem uX:SWO (ltOf sI):=by
 refine CR _ (fun a=>?_) (fun a b=>?_) fun a b c h1 h2=>?_
 ·rcases jj a a with h | h | h<;>omega
 ·rcases jj a b with h | h | h<;>rcases jj b a with h' | h' | h'<;>omega
 ·have t1:=jj a b
  have t2:=jj b c
  have t3:=jj a c
  constructor
  ·omega
  ·intro h;omega
def qd:oP fX:=⟨fX.cells,2,by decide,fun _=>rfl,fun x v hv=>by
 simp only [fX.cells,List.mem_cons,List.not_mem_nil,or_false] at hv
 rcases hv with rfl | rfl<;>exact ⟨_,_,rfl⟩⟩
theorem fX.cells_inj (x y:fX) (h:qd.cells x=qd.cells y):x=y:=by
 have h1:[AV.int .i64 x.f,AV.int .i64 x.t]=[AV.int .i64 y.f,AV.int .i64 y.t]:=h
 simp at h1
 cases x;cases y;simp only at h1;obtain ⟨rfl,rfl⟩:=h1;rfl
variable {N:gA}
set_option maxRecDepth 100000 in
theorem Ip (hT:fC Tryz.prog N):fZ Tryz.prog N 26 (lL qd sI 27):=by
 refine yd uX hT ⟨_,Tryz.func26,rfl⟩ (fun v hv=>by rcases hv with rfl | rfl | rfl<;>kernel_rfl) fun blk cap d w hH hblk hsz=>?_
 refine AnyQ.slices_SortFunc_eq Tryz.laysSortE 2 (fun w=>Tryz.isAgg51 w) (fun w=>Tryz.sizeOf51 w) qd.enc qd.enc_len qd.one sI uX 27 #[] blk 0 cap d w ?_ ?_ hH hblk hsz
 ·exact tP (jh hT) Tryz.func27 rfl
 ·intro m os dk hs x y
  exact callsIn_wide.1 (D1 x y _)
end Go.Proofs.Ev
namespace Go.Proofs.Ev
open Go.Proofs
noncomputable def zY (p:Nat→List AV→ag→Option (AV×ag)) (f:FuncId):Option (Nat→List AV→ag→Option (AV×ag)) :=
 if f=155 then some uy else
 if f=392 then some ux else
 if f=338 then some Ce else
 if f=109 then some zW else
 if f=324 then some E9 else
 if f=166 then some (lL IY dA 61) else
 if f=68 then some (lL vf (fun a b=>bZ a.d b.d) 69) else
 if f=122 then some pv else
 if f=125 then some nB else
 if f=26 then some (lL qd sI 27) else
 if f=5 then some p else
 none
def pureT:List FuncId:=[23,9,10,193,76,34,315,316,134,317,15,208,209,137,321,370,210,368,313,312,259,314,369,390,261,195,194,128,267,320,318,319,265,266,200,201,196,263,264,197,129,72,74,262,205,204,202,130,203,131,73,33,75,37,35,206,38,269,268,207,133,138,132,135,136,77,39,13,12,32,4,71,127,218,140,219,280,217,142,79,69,335,374,336,276,278,124,327,328,332,325,326,329,330,331,333,334,270,215,211,120,65,61,371,323,272,271,212,184,178,179,180,181,182,183,274,121,78,40,167,106,57,66,102,143,82,100,31,70,56,105,55,103,104,11,53,101,21,99,17,60,25,58,8,19,20,6]
def L7:List FuncId:=[260,198,7,36,279,213,5]
def BX (t:TypeId):Option (List LK):=if t=25 then some (List.replicate 32 (.int .u8)) else if t=27 then some (List.replicate 32 (.int .u8)++[.int .i64]) else if t=39 then some (List.replicate 32 (.int .u8)++[.int .i64]++(List.replicate 32 (.int .u8)++[.int .i64])++[.str]) else if t=75 then some ([.int .i64]++List.replicate 32 (.int .u8)++(List.replicate 32 (.int .u8)++[.int .i64])) else if t=51 then some [.int .i64,.int .i64] else if t=47 then some (List.replicate 32 (.int .u8)++[.int .i64]++[.str,.bool]) else none
noncomputable def dE (p:Nat→List AV→ag→Option (AV×ag)):bG:=⟨zY p,fun f=>decide (f∈pureT),fun f=>decide (f∈L7),BX⟩
noncomputable def pC:aZ:=⟨iF dA,iF fun a b:ar=>bZ a.d b.d⟩
variable {p:Nat→List AV→ag→Option (AV×ag)} {N:gA}
theorem Cf {f:FuncId} (h:f∉[155,392,338,109,324,166,68,122,125,26,5]):zY p f=none:=by
 simp only [List.mem_cons,List.not_mem_nil,or_false,not_or] at h
 obtain ⟨h0,h1,h2,h3,h4,h5,h6,h7,h8,h9,h10⟩:=h
 unfold zY
 rw [if_neg h0,if_neg h1,if_neg h2,if_neg h3,if_neg h4,if_neg h5,if_neg h6,if_neg h7,if_neg h8,if_neg h9,if_neg h10]
theorem jL {L:List FuncId} (h:(L.all fun f=>decide (f∈pureT))=true):∀f,f∈L→(dE p).pure f=true:=fun f hf=>List.all_eq_true.1 h f hf
theorem Ga {L:List FuncId} (h:(L.all fun f=>!decide (f∈pureT)&&decide (f∈L7))=true):∀f,f∈L→(dE p).pure f=false∧(dE p).frz f=true:=fun f hf=>by
 have h1:=List.all_eq_true.1 h f hf
 rw [Bool.and_eq_true,Bool.not_eq_true'] at h1
 exact h1
theorem qQ {L:List FuncId} (h:(L.all fun f=>!decide (f∈pureT)&&!decide (f∈L7))=true):∀f,f∈L→(dE p).pure f=false∧(dE p).frz f=false:=fun f hf=>by
 have h1:=List.all_eq_true.1 h f hf
 rw [Bool.and_eq_true,Bool.not_eq_true',Bool.not_eq_true'] at h1
 exact h1
theorem Ke:(dE p).prim 155=some uy:=rfl
theorem Kf:(dE p).prim 392=some ux:=rfl
theorem Kg:(dE p).prim 338=some Ce:=rfl
theorem Kh:(dE p).prim 109=some zW:=rfl
theorem Ki:(dE p).prim 324=some E9:=rfl
theorem Dx:(dE p).prim 166=some (lL IY dA 61):=rfl
theorem Dy:(dE p).prim 68=some (lL vf (fun a b=>bZ a.d b.d) 69):=rfl
theorem Kj:(dE p).prim 122=some pv:=rfl
theorem Dz:(dE p).prim 125=some nB:=rfl
theorem zZ:(dE p).prim 26=some (lL qd sI 27):=rfl
theorem Kk:(dE p).prim 5=some p:=rfl
theorem EA:aA (dE p):={
 pure:=jL (by kernel_rfl)
 prim:=fun f hf=>Cf (by intro h;apply hf;revert h;simp only [List.mem_cons,List.not_mem_nil,or_false];grind)
 kDig:=rfl
 kId:=rfl }
theorem Bu:dP (dE p):={
 toaA:=EA
 pure2:=jL (by kernel_rfl)
 frz2:=Ga (by kernel_rfl) }
theorem Bv:ga (dE p):={
 todP:=Bu
 pure3:=jL (by kernel_rfl) }
theorem Bw:d6 (dE p):={
 toga:=Bv
 pure4:=jL (by kernel_rfl)
 frz4:=Ga (by kernel_rfl)
 plain4:=qQ (by kernel_rfl) }
theorem Bx:dj (dE p):={
 tod6:=Bw
 pure5:=jL (by kernel_rfl) }
theorem By:d7 (dE p):={
 todj:=Bx
 pure6:=jL (by kernel_rfl) }
theorem Bz:cY (dE p):={
 tod7:=By
 frz7:=Ga (by kernel_rfl)
 pure7:=jL (by kernel_rfl) }
theorem BA:cm (dE p):={
 tocY:=Bz
 pure8:=jL (by kernel_rfl) }
theorem BC:eP (dE p):={
 tocm:=BA
 pureA:=jL (by kernel_rfl)
 plainA:=qQ (by kernel_rfl) }
theorem BD:d8 (dE p):={
 toeP:=BC
 pureD:=jL (by kernel_rfl)
 frzD:=Ga (by kernel_rfl)
 plainD:=qQ (by kernel_rfl)
 copy:=fun hb hg ha K=>Ef Kf rfl rfl hb hg ha K
 str:=fun hb hg hn hl hv=>Ix Kg rfl rfl hb hg hn hl hv
 itoa:=fun n l1 l2 base H K=>EB Ke rfl rfl n l1 l2 base H K }
theorem BE:bS (dE p):={
 tod8:=BD
 pureF:=jL (by kernel_rfl)
 plainF:=qQ (by kernel_rfl) }
theorem BF:gc (dE p):={
 tobS:=BE
 pureG:=jL (by kernel_rfl) }
theorem BG:j8 (dE p):={
 togc:=BF
 pureH:=jL (by kernel_rfl)
 cmpB:=fun hl hx hy ha hb K=>GC Kh rfl rfl hl hx hy ha hb K }
theorem BH:eQ (dE p):={
 toj8:=BG
 pureI:=jL (by kernel_rfl) }
theorem BI:gP (dE p):={
 toeQ:=BH
 pureJ:=jL (by kernel_rfl)
 plainJ:=qQ (by kernel_rfl)
 idxB:=fun s c=>G2 Ki rfl rfl s c }
theorem BJ:iJ (dE p):={
 togP:=BI
 pureK:=jL (by kernel_rfl) }
theorem BK:dm (dE p):={
 toiJ:=BJ
 pureL:=jL (by kernel_rfl)
 plainL:=qQ (by kernel_rfl) }
theorem BL:lm (dE p):={
 todm:=BK
 frzM:=Ga (by kernel_rfl) }
theorem BM:gd (dE p):={
 tolm:=BL
 pureN:=jL (by kernel_rfl)
 plainN:=qQ (by kernel_rfl) }
theorem BN:gQ (dE p):={
 togd:=BM
 plainO:=qQ (by kernel_rfl) }
theorem pp:fk (dE p):={
 togQ:=BN
 pureP:=jL (by kernel_rfl) }
theorem ui:d9 (dE p) pC:={
 tofk:=pp
 permI:=kH pF
 sortI:=fun hl hb hg K=>dx Dx rfl rfl (uz IY aI.cells_inj dA _ hb hl hg) K
 sortI0:=fun K=>dx Dx rfl rfl rfl K }
theorem uj:j9 (dE p) pC:={
 tod9:=ui
 permD:=kH od
 sortD:=fun hl hb hg K=>dx Dy rfl rfl (uz vf ar.cells_inj _ _ hb hl hg) K
 sortD0:=fun K=>dx Dy rfl rfl rfl K
 cloneD:=fun hl K=>Bg Kj rfl rfl hl K
 compD:=fun hl hb hg=>⟨_,fun K=>dx Dz rfl rfl (Bl hb hg hl) K⟩
 compD0:=fun K=>dx Dz rfl rfl (yS _ _) K }
theorem BO:bB (dE p) pC:={
 toj9:=uj
 pureS:=jL (by kernel_rfl)
 plainS:=qQ (by kernel_rfl) }
theorem pq:cT (dE p) pC:={
 tobB:=BO
 pureT:=jL (by kernel_rfl)
 plainT:=qQ (by kernel_rfl) }
theorem ED:∀t ks,BX t=some ks→dg Tryz.prog 20 t=some ks∧Tryz.prog.eqGuardType Tryz.prog.depth t=false∧bb Tryz.prog t=some true:=by
 intro t ks h
 unfold BX at h
 split at h
 ·rename_i ht;subst ht;cases h;exact ⟨by kernel_rfl,by kernel_rfl,by kernel_rfl⟩
 ·split at h
  ·rename_i ht;subst ht;cases h;exact ⟨by kernel_rfl,by kernel_rfl,by kernel_rfl⟩
  ·split at h
   ·rename_i ht;subst ht;cases h;exact ⟨by kernel_rfl,by kernel_rfl,by kernel_rfl⟩
   ·split at h
    ·rename_i ht;subst ht;cases h;exact ⟨by kernel_rfl,by kernel_rfl,by kernel_rfl⟩
    ·split at h
     ·rename_i ht;subst ht;cases h;exact ⟨by kernel_rfl,by kernel_rfl,by kernel_rfl⟩
     ·split at h
      ·rename_i ht;subst ht;cases h;exact ⟨by kernel_rfl,by kernel_rfl,by kernel_rfl⟩
      ·cases h
theorem Ir (hT:fC Tryz.prog N) (hG:jr N) (hL:lc N) (hp:fZ Tryz.prog N 5 p):(dE p).Sound Tryz.prog N:={
 fits:=⟨ED⟩
 mixed:=by kernel_rfl
 tag:=hT
 names:=qu
 prim f q h:=by
  change zY p f=some q at h
  unfold zY at h
  split at h
  ·rename_i hf;subst hf;cases h;exact Dn hL
  split at h
  ·rename_i hf;subst hf;cases h;exact Jo hG
  split at h
  ·rename_i hf;subst hf;cases h;exact MK hG
  split at h
  ·rename_i hf;subst hf;cases h;exact GD N
  split at h
  ·rename_i hf;subst hf;cases h;exact Mf N
  split at h
  ·rename_i hf;subst hf;cases h;exact Iq hT
  split at h
  ·rename_i hf;subst hf;cases h;exact Io hT
  split at h
  ·rename_i hf;subst hf;cases h;exact Gz hT
  split at h
  ·rename_i hf;subst hf;cases h;exact Bm hT
  split at h
  ·rename_i hf;subst hf;cases h;exact Ip hT
  split at h
  ·rename_i hf;subst hf;cases h;exact hp
  cases h }
end Go.Proofs.Ev
namespace Go.Proofs.Ev
open Go.Proofs
variable {N:gA} {φ:fE} {H:ag} {w w':World}
theorem n9 {dT sT ty:TypeId} (hu:Program.underlying Tryz.prog dT=some (.slice 98)) {k o dl dc sl sc:Nat} {a:Addr} {X:List Value} (hX:X.length=37) (hm:Nat.min sl dl=1) (hl:∀j v,X[j]?=some v→w.cell? (a.add j)=some v) (h1:∀v∈X,v.oneCell'=true)
 {cur:Array Value} {T:TypeId} {fr:Nat×Nat} (hd:w.heap[k]?=some (.cells cur T fr)) (hf:o+37≤cur.size) (hfr:lV fr cur.size) :
 (Builtin.copy_ #[dT,sT] ty #[.slice (some ⟨k,o,none⟩) dl dc,.slice (some a) sl sc]).run Tryz.prog w=.ok (.int .i64 1) (bE w k (.cells (lR cur o X) T fr)):=by
 have hld:=run_loadCells_list (P:=Tryz.prog) (w:=w) a X hl
 have hst:=eD (P:=Tryz.prog) k o T fr X 0 cur w hd (by omega) hfr h1
 rw [Nat.add_zero] at hst
 rw [hX] at hld
 have hz:∀w0:World,(sizeOf 98).run Tryz.prog w0=.ok 37 w0:=Tryz.sizeOf98
 simp [Builtin.copy_,run_underlying hu,Builtin.lenOf,hm,hz,Builtin.firstCells,hld,hst,goInt]
theorem FD {P:Program} (tS tR e:TypeId) (ht:P.underlying tS=some (.slice e)) (size:Nat) (hz:∀w,(sizeOf e).run P w=.ok size w) {a b:Addr} {la ca lb cb:Nat} (hne:a.block≠b.block) {tA tB:TypeId} {kA kB:Nat} (hsa:w.shape? a.block=some (tA,kA)) (hsb:w.shape? b.block=some (tB,kB)) (hkA:kA≠0) (hfb:w.frozen? b=false) (hfe:w.frozen? { block:=b.block,off:=kB }=false) :
 (Extern.SlicesOverlaps.overlaps #[tS,tS] #[tR] #[.slice (some a) la ca,.slice (some b) lb cb]).run P w=.ok (.bool false) w:=by
 have hnb':(a.block==b.block)=false:=by simpa using hne
 delta Extern.SlicesOverlaps.overlaps
 delta Extern.SlicesOverlaps.overlaps.match_4
 dsimp -zeta only
 rw [dif_pos (show (#[Value.slice (some a) la ca,Value.slice (some b) lb cb]:Array Value).size=2 from rfl)]
 by_cases h0:la=0∨lb=0∨size=0
 ·simp [Array.getLit,run_underlying ht,hz,h0]
 ·cases kA with
  | zero=>exact absurd rfl hkA
  | succ kA =>
   cases hfa:w.frozen? a<;>cases hfe2:w.frozen? { block:=a.block,off:=kA+1 } <;>
    simp [Array.getLit,run_underlying ht,hz,h0,hnb',frozen,noView,viewAt,mayBeOne,stringish,shape,Sem.run,hsa,hsb,hfa,hfb,hfe,hfe2]
set_option maxRecDepth 100000 in
set_option maxHeartbeats 4000000 in
theorem D3 {bs:Nat} {cs:Array Value} {T:TypeId} {fr:Nat×Nat} {A B:List Value} {av:Addr} {capv:Nat} {Tv:TypeId} {cv:Array Value} {fv:Nat×Nat}
 (hs:w.heap[bs]?=some (.cells cs T fr)) (hv:w.heap[av.block]?=some (.cells cv Tv fv)) (hsp:av.spot=none) (hne:av.block≠bs)
 (hA:A.length=37) (hA1:∀v∈A,v.oneCell'=true) (hAc:∀(j:Nat) (v:Value),A[j]?=some v→cs[j]?=some v)
 (hB:B.length=37) (hB1:∀v∈B,v.oneCell'=true) (hBc:∀(j:Nat) (v:Value),B[j]?=some v→cv[av.off+j]?=some v) :
 CallsIn (Fw none) 0 Tryz.prog 46 #[.slice (some ⟨bs,0,none⟩) 1 1,.int .i64 0,.slice (some av) 1 capv] w
  fun e w2=>∃newCap Z,2≤newCap∧Z.size=newCap*37∧e=.returned (.slice (some ⟨w.heap.size,0,none⟩) 2 newCap)∧w2.heap.size=w.heap.size+1∧w2.heap[w.heap.size]?=some (.cells (lR (lR Z 0 B) 37 A) 98 (0,0))∧fi w w2∧∀k,k<w.heap.size→w2.heap[k]?=w.heap[k]?:=by
 have hbs:bs<w.heap.size:=(Array.getElem?_eq_some_iff.1 hs).1
 have hbv:av.block<w.heap.size:=(Array.getElem?_eq_some_iff.1 hv).1
 obtain ⟨bv,ov,spv⟩:=av
 simp only at hsp hv hne hbv hBc
 subst hsp
 have hadd:∀b o j:Nat,((⟨b,o,none⟩:Addr).add j)=⟨b,o+j,none⟩:=fun b o j=>by by_cases hj:j=0<;>simp [Addr.add,hj]
 have mixed:Tryz.prog.follows .mixedOrders=true:=by kernel_rfl
 refine callsIn_of_wp Tryz.func46 rfl trivial ?_ rfl
 have hn:Tryz.f46.ntmps=95:=rfl
 simp only [hn,List.size_toArray,List.length_cons,List.length_nil,Nat.reduceAdd,Nat.reduceSub,Array.replicate_succ,Array.replicate_zero,List.push_toArray,List.append_toArray,List.nil_append,List.cons_append]
 gi_wp2
 have hcut:2≤(Question.appendCap 2 1 98).cut (w.tape w.drawn (Question.appendCap 2 1 98)):=by simp [Question.cut]
 generalize (Question.appendCap 2 1 98).cut (w.tape w.drawn (Question.appendCap 2 1 98))=newCap at *
 obtain ⟨Zv,hZv,hZs0⟩:∃Zv:Array Value,Zv=(List.replicate 32 (Value.int .u8 0)++[Value.string ⟨#[]⟩,Value.string ⟨#[]⟩,Value.int .i64 0,Value.slice none 0 0,Value.slice none 0 0]).toArray∧Zv.size=37:=⟨_,rfl,rfl⟩
 simp only [List.replicate_succ,List.replicate_zero,List.nil_append,List.cons_append] at hZv
 rw [←hZv]
 obtain ⟨Z,hZ⟩:∃Z,Z=Builtin.zeroCells Zv 2++Builtin.zeroCells Zv (newCap-2):=⟨_,rfl⟩
 have hZs:Z.size=newCap*37:=by rw [hZ];simp [Builtin.zeroCells,hZs0];omega
 rw [←hZ]
 clear hZ hZv hZs0 Zv
 generalize hW1:(w.alloc (.cells Z 98 (0,0))).drew=W1
 have hg1:W1.heap[w.heap.size]?=some (.cells Z 98 (0,0)):=by rw [←hW1];exact be (w:=w)
 have ho1:∀k,k<w.heap.size→W1.heap[k]?=w.heap[k]?:=fun k hk=>by rw [←hW1];exact aX (w:=w) hk
 have hsz1:W1.heap.size=w.heap.size+1:=by rw [←hW1];simp [World.drew]
 have he1:fi w W1:=by rw [←hW1];exact .refl
 have hs1:=(ho1 bs hbs).trans hs
 have hv1:=(ho1 bv hbv).trans hv
 have hC1:=n9 (w:=W1) (dT:=23) (sT:=22) (ty:=3) Tryz.underlying23 (k:=w.heap.size) (o:=0) (dl:=2) (dc:=newCap) (sl:=1) (sc:=capv) (a:=⟨bv,ov,none⟩) hB rfl (fun j v hj=>by
  rw [hadd];simp only [World.cell?,hv1];exact hBc j v hj) hB1 hg1 (by omega) (.zero _)
 rw [hC1]
 simp only [Result.andThen]
 generalize hW2:bE W1 w.heap.size (.cells (lR Z 0 B) 98 (0,0))=W2
 have hZ2:(lR Z 0 B).size=Z.size:=fo (by omega)
 have hg2:W2.heap[w.heap.size]?=some (.cells (lR Z 0 B) 98 (0,0)):=by rw [←hW2];exact cM (by omega)
 have ho2:∀k,k<w.heap.size→W2.heap[k]?=w.heap[k]?:=fun k hk=>by rw [←hW2];exact (bq (by omega)).trans (ho1 k hk)
 have hsz2:W2.heap.size=w.heap.size+1:=by rw [←hW2];simpa using hsz1
 have he2:fi w W2:=by rw [←hW2];exact he1
 have hs2:=(ho2 bs hbs).trans hs
 have hC2:=n9 (w:=W2.drew) (dT:=23) (sT:=23) (ty:=3) Tryz.underlying23 (k:=w.heap.size) (o:=37) (dl:=1) (dc:=newCap-1) (sl:=1) (sc:=1) (a:=⟨bs,0,none⟩) hA rfl (fun j v hj=>by
  have hs2':W2.drew.heap[bs]?=some (.cells cs T fr):=hs2
  rw [hadd];simp only [World.cell?,hs2',Nat.zero_add];exact hAc j v hj) hA1 hg2 (by omega) (.zero _)
 have hle:(1:Int)≤newCap:=by omega
 clear hC1 hW1 hW2
 gi_wp2
 gi_region
 gi_wp2
 go_ret
 refine ⟨newCap,Z,hcut,hZs,rfl,by simpa using hsz2,cM (by show w.heap.size<W2.heap.size;omega),he2,fun k hk=>(bq (by omega)).trans (ho2 k hk)⟩
set_option maxRecDepth 100000 in
set_option maxHeartbeats 4000000 in
theorem D4 {bs cap:Nat} {cs:Array Value} {T:TypeId} {fr:Nat×Nat} {A B:List Value} {av:Addr} {capv:Nat} {Tv:TypeId} {cv:Array Value} {fv:Nat×Nat}
 (hs:w.heap[bs]?=some (.cells cs T fr)) (hv:w.heap[av.block]?=some (.cells cv Tv fv)) (hsp:av.spot=none) (hne:av.block≠bs) (hcap:2≤cap) (hfit:cap*37≤cs.size) (hfr:lV fr (cs.size+1))
 (hA:A.length=37) (hA1:∀v∈A,v.oneCell'=true) (hAc:∀(j:Nat) (v:Value),A[j]?=some v→cs[j]?=some v)
 (hB:B.length=37) (hB1:∀v∈B,v.oneCell'=true) (hBc:∀(j:Nat) (v:Value),B[j]?=some v→cv[av.off+j]?=some v) :
 CallsIn (Fw none) 0 Tryz.prog 46 #[.slice (some ⟨bs,0,none⟩) 1 cap,.int .i64 0,.slice (some av) 1 capv] w
  fun e w2=>e=.returned (.slice (some ⟨bs,0,none⟩) 2 cap)∧w2=bE w.drew bs (.cells (lR (lR cs 37 A) 0 B) T fr):=by
 have hbs:bs<w.heap.size:=(Array.getElem?_eq_some_iff.1 hs).1
 have hbv:av.block<w.heap.size:=(Array.getElem?_eq_some_iff.1 hv).1
 have hfr0:lV fr cs.size:=fun off h=>hfr off (by omega)
 obtain ⟨bv,ov,spv⟩:=av
 simp only at hsp hv hne hbv hBc
 subst hsp
 have hadd:∀b o j:Nat,((⟨b,o,none⟩:Addr).add j)=⟨b,o+j,none⟩:=fun b o j=>by by_cases hj:j=0<;>simp [Addr.add,hj]
 have mixed:Tryz.prog.follows .mixedOrders=true:=by kernel_rfl
 have hcvz:cv.size≠0:=by
  have h0:B[0]?=some B[0]:=List.getElem?_eq_getElem (by omega)
  have:=(Array.getElem?_eq_some_iff.1 (hBc 0 _ h0)).1
  omega
 have hO:=FD (P:=Tryz.prog) (w:=w) 22 4 98 Tryz.underlying22 37 Tryz.sizeOf98 (a:=⟨bv,ov,none⟩) (b:=⟨bs,37,none⟩) (la:=1) (ca:=capv) (lb:=1) (cb:=cap-1) hne (tA:=Tv) (tB:=T) (kA:=cv.size) (kB:=cs.size) (by simp [World.shape?,hv]) (by simp [World.shape?,hs]) hcvz
  (by simp only [World.frozen?,hs];rw [Bool.eq_false_iff];intro hh;exact hfr 37 (by omega) (by simpa using hh)) (by simp only [World.frozen?,hs];rw [Bool.eq_false_iff];intro hh;exact hfr cs.size (by omega) (by simpa using hh))
 have hC1:=n9 (w:=w.drew) (dT:=23) (sT:=23) (ty:=3) Tryz.underlying23 (k:=bs) (o:=37) (dl:=1) (dc:=cap-1) (sl:=2) (sc:=cap) (a:=⟨bs,0,none⟩) hA rfl (fun j v hj=>by
  have hs':w.drew.heap[bs]?=some (.cells cs T fr):=hs
  rw [hadd];simp only [World.cell?,hs',Nat.zero_add];exact hAc j v hj) hA1 hs (by omega) hfr0
 generalize hW1:bE w.drew bs (.cells (lR cs 37 A) T fr)=W1 at hC1
 have hZ1:(lR cs 37 A).size=cs.size:=fo (by omega)
 have hg1:W1.heap[bs]?=some (.cells (lR cs 37 A) T fr):=by rw [←hW1];exact cM hbs
 have hv1:W1.heap[bv]?=some (.cells cv Tv fv):=by rw [←hW1];exact (bq (Ne.symm hne)).trans hv
 have hC2:=n9 (w:=W1) (dT:=23) (sT:=22) (ty:=3) Tryz.underlying23 (k:=bs) (o:=0) (dl:=2) (dc:=cap) (sl:=1) (sc:=capv) (a:=⟨bv,ov,none⟩) hB rfl (fun j v hj=>by
  rw [hadd];simp only [World.cell?,hv1];exact hBc j v hj) hB1 hg1 (by omega) (by rw [hZ1];exact hfr0)
 have hle:¬((cap:Int)<2):=by omega
 have hle2:(2:Int)≤cap:=by omega
 refine callsIn_of_wp Tryz.func46 rfl trivial ?_ rfl
 have hn:Tryz.f46.ntmps=95:=rfl
 simp only [hn,List.size_toArray,List.length_cons,List.length_nil,Nat.reduceAdd,Nat.reduceSub,Array.replicate_succ,Array.replicate_zero,List.push_toArray,List.append_toArray,List.nil_append,List.cons_append]
 gi_wp2
 rw [run_callFunc_extern Tryz.func86 (by kernel_rfl) (by kernel_rfl) (by kernel_rfl) (e:=Extern.SlicesOverlaps.overlaps #[22,22] #[4]) (by kernel_rfl),hO]
 simp only [Result.andThen]
 gi_wp2
 gi_region
 gi_wp2
 go_ret
 exact ⟨rfl,by rw [←hW1,oF]⟩
theorem uN {n:Nat} {φ:fE} {w:World} {cs:Array Value}:∀{row:List AV} {o:Nat},(∀(j:Nat) (v:AV),row[j]?=some v→v.leaf=true∧∃V,cs[o+j]?=some V∧RV φ n w v V)→
 ∃A:List Value,A.length=row.length∧(∀v∈A,v.oneCell'=true)∧(∀(j:Nat) (v:Value),A[j]?=some v→cs[o+j]?=some v)∧∀(j:Nat) (v:AV),row[j]?=some v→∃V,A[j]?=some V∧RV φ n w v V
 | [],o,_=>⟨[],rfl,by simp,by simp,by simp⟩
 | x::row,o,h=>by
  obtain ⟨hl,V,h1,h2⟩:=h 0 x rfl
  obtain ⟨A,a1,a2,a3,a4⟩:=uN (row:=row) (o:=o+1) fun j v hj=>by
   have:=h (j+1) v hj
   rwa [show o+(j+1)=o+1+j by omega] at this
  refine ⟨V::A,by simp [a1],fun v hv=>?_,fun j v hj=>?_,fun j v hj=>?_⟩
  ·rcases List.mem_cons.1 hv with rfl | hv
   ·exact h2.oneCell hl
   ·exact a2 v hv
  ·cases j with
   | zero=>simp at hj;subst hj;simpa using h1
   | succ j=>rw [show o+(j+1)=o+1+j by omega];exact a3 j v hj
  ·cases j with
   | zero=>simp at hj;subst hj;exact ⟨V,rfl,h2⟩
   | succ j=>exact a4 j v hj
theorem Ax {n:Nat} {Z:Array Value} {A B:List Value} {r q:List AV} (hZ:2*37≤Z.size) (hr:r.length=37) (hq:q.length=37) (hA:A.length=37) (hB:B.length=37) {C:Array Value} (hC:C.size=Z.size)
 (c0:∀j,j<37→C[j]?=B[j]?) (c1:∀j,j<37→C[37+j]?=A[j]?)
 (rB:∀(j:Nat) (v:AV),r[j]?=some v→v.leaf=true∧∃V,B[j]?=some V∧RV φ n w v V) (rA:∀(j:Nat) (v:AV),q[j]?=some v→v.leaf=true∧∃V,A[j]?=some V∧RV φ n w v V):cH φ n w 37 [r,q] C:=by
 refine ⟨by rw [hC];exact hZ,fun i row hi=>?_⟩
 match i,hi with
 | 0,hi =>
  simp at hi;subst hi
  refine ⟨hr,fun j v hj=>?_⟩
  obtain ⟨a,V,b,c⟩:=rB j v hj
  have:=bh hj
  exact ⟨a,V,by rw [Nat.zero_mul,Nat.zero_add,c0 j (by omega)];exact b,c⟩
 | 1,hi =>
  simp at hi;subst hi
  refine ⟨hq,fun j v hj=>?_⟩
  obtain ⟨a,V,b,c⟩:=rA j v hj
  have:=bh hj
  exact ⟨a,V,by rw [Nat.one_mul,c1 j (by omega)];exact b,c⟩
 | i+2,hi=>simp at hi
def Mx (base:Nat) (args:List AV) (H:ag):Option (AV×ag) :=
 match args with
 | [.nils,.int .i64 0,.lst [r] _]=>if r.length=37 then some (.sl H.length 0 37 0 1,H++[.rows 37 0 [r]]) else none
 | [.sl b g 37 0 1,.int .i64 0,.lst [r] _] =>
  match H[b]? with
  | some (.rows 37 g' [q])=>if base≤b∧g=g'∧r.length=37 then some (.sl b (4*g'+4) 37 0 2,H.set b (.rows 37 (4*g'+4) [r,q])) else none
  | _=>none
 | _=>none
theorem FK {α β:Type} {R:α→β→Prop} {a b c:α} {Vs:Array β} (h:kN R [a,b,c] Vs.toList):∃X Y Z,Vs=#[X,Y,Z]∧R a X∧R b Y∧R c Z:=by
 obtain ⟨l⟩:=Vs
 cases h with
 | cons h1 t =>
  cases t with
  | cons h2 t =>
   cases t with
   | cons h3 t =>
    cases t
    exact ⟨_,_,_,rfl,h1,h2,h3⟩
theorem JG (base:Nat) (H:ag) (r:List AV) (x:Bool) (hr:r.length=37):dW Tryz.prog D6 base 46 [.nils,.int .i64 0,.lst [r] x] H fun v X=>v=.sl H.length 0 37 0 1∧X=H++[.rows 37 0 [r]]:=by
 refine am Tryz.func46 rfl rfl (by simp) (by kernel_rfl) ?_
 unfold Tryz.f46
 have ha:=lq (P:=Tryz.prog) (base:=base) (ts:=#[23,22]) (e:=98) (e':=98) (by simp) (by simp) ML NY (by simp [show aP.length=32 by decide]) (by decide) H (x:=x) hr (by decide)
 have hs:cX Tryz.prog 23 (.lst [] true) (some (.int .i64 0)) none none=some (.lst [] true):=by kernel_rfl
 simp [aG,ha,hs,AV.denil]
theorem Mn (hT:fC Tryz.prog N):fZ Tryz.prog N 46 Mx:=by
 refine ⟨⟨_,Tryz.func46,rfl⟩,fun base args H v H' h φ w Vs hb hH ht=>?_⟩
 unfold Mx at h
 split at h
 ·rename_i r x
  split at h
  ·rename_i hr
   cases h
   obtain ⟨n,v1,X,h1,rfl,rfl⟩:=JG base H r x hr
   exact ((qR (jh hT) n).2.2.2.2.1 base _ _ H _ _ h1).2 hb hH ht
  ·cases h
 ·rename_i b g r x
  split at h
  ·rename_i g' q hblk
   split at h
   ·rename_i hc
    obtain ⟨hbb,rfl,hr⟩:=hc
    cases h
    obtain ⟨X,Y,V,rfl,h1,h2,h3⟩:=FK ht
    obtain ⟨L,cs,T,fr,e1,e2,e3,e4,e5,e6⟩:=hH.rows _ _ _ _ hblk
    have hq:=(e6.2 0 q rfl).1
    obtain ⟨A,a1,a2,a3,a4⟩:=uN (row:=q) (o:=0) (cs:=cs) (φ:=φ) (n:=H.length) (w:=w) fun j v hj=>by
     obtain ⟨x1,V,x2,x3⟩:=(e6.2 0 q rfl).2 j v hj
     exact ⟨x1,V,by simpa using x2,x3⟩
    simp only [Nat.zero_add] at a3
    cases h2
    cases h1 with
    | sl hbn hcap hh =>
     rename_i cap a
     obtain ⟨ha,hfit⟩:=(hh L e1).2 e2.symm
     simp only [Nat.zero_mul,Nat.zero_add] at ha hfit
     subst ha
     have hH':=hH
     cases h3 with
     | lst Us esz hlen hcv he hbv hrv =>
      rename_i bv lv capv
      have hl1:lv=1:=hlen
      subst hl1
      obtain ⟨cb,off,rfl,hrow⟩:=hbv (by simp)
      obtain ⟨hre,hcell⟩:=hrow 0 r rfl
      have hez:esz=37:=by rw [←hre];exact hr
      obtain ⟨c0,hc0⟩:∃v,r[0]?=some v:=⟨r[0]'(by omega),List.getElem?_eq_getElem _⟩
      obtain ⟨_,hnl,hw0⟩:=hcell 0 c0 hc0
      have hne:cb≠L.cb:=fun h=>hnl.1 b L e1 h.symm
      obtain ⟨cv,Tv,fv,hv⟩:∃cv Tv fv,w.heap[cb]?=some (.cells cv Tv fv):=by
       simp only [World.cell?] at hw0
       cases hg:w.heap[cb]? with
       | none=>rw [hg] at hw0;cases hw0
       | some o =>
        rw [hg] at hw0
        cases o with
        | cells c T fr=>exact ⟨c,T,fr,rfl⟩
        | _=>cases hw0
      obtain ⟨B,b1,b2,b3,b4⟩:=uN (row:=r) (o:=off) (cs:=cv) (φ:=φ) (n:=H.length) (w:=w) fun j v hj=>by
       obtain ⟨x1,_,x2⟩:=hcell j v hj
       simp only [World.cell?,hv,Nat.zero_mul,Nat.add_zero] at x2
       exact ⟨x1,_,x2,hrv 0 r rfl j v hj⟩
      have rB:∀(j:Nat) (v:AV),r[j]?=some v→v.leaf=true∧∃V,B[j]?=some V∧RV φ H.length w v V:=fun j v hj=>⟨(hcell j v hj).1,b4 j v hj⟩
      have rA:∀(j:Nat) (v:AV),q[j]?=some v→v.leaf=true∧∃V,A[j]?=some V∧RV φ H.length w v V:=fun j v hj=>⟨((e6.2 0 q rfl).2 j v hj).1,a4 j v hj⟩
      have hcs:37≤cs.size:=by have:=e6.1;simpa using this
      have hone:((⟨cb,off,none⟩:Addr)).spot=none:=rfl
      by_cases hc2:2≤cap
      ·refine (D4 (bs:=L.cb) (cap:=cap) (av:=⟨cb,off,none⟩) (capv:=capv) e3 hv rfl hne hc2 (by rw [e4];exact hfit) (e5.2.2 (by decide)) (by omega) a2 a3 (by omega) b2 b3).mono ?_
       rintro e w2 ⟨rfl,rfl⟩
       have hz1:(lR cs 37 A).size=cs.size:=fo (by have:=Nat.mul_le_mul_right 37 hc2;omega)
       have hz2:(lR (lR cs 37 A) 0 B).size=cs.size:=by rw [fo (by omega),hz1]
       have h74:2*37≤cs.size:=by have:=Nat.mul_le_mul_right 37 hc2;omega
       obtain ⟨r1,r2⟩:=hH.drew.regen e1 (g':=4*g+4) (by omega) (T:=T) (fr:=fr) (fun r hr=>by rw [show w.drew.heap=w.heap from rfl,e3] at hr;cases hr) (by rw [hz2];exact e4) ⟨by rw [hz2];exact e5.1,⟨fun h=>by omega,fun h=>by omega⟩,fun h=>by rw [hz2];exact e5.2.2 h⟩
        (Ax (Z:=cs) (A:=A) (B:=B) h74 hr hq (by omega) (by omega) hz2 (fun j hj=>by rw [kI (by omega),if_pos (by omega)];simp) (fun j hj=>by rw [kI (by omega),if_neg (by omega),kI (by omega),if_pos (by omega)];simp) (fun j v hj=>by obtain ⟨x,V,y,z⟩:=rB j v hj;exact ⟨x,V,y,z.mono .drew⟩) (fun j v hj=>by obtain ⟨x,V,y,z⟩:=rA j v hj;exact ⟨x,V,y,z.mono .drew⟩))
       refine ⟨_,_,rfl,?_,r1,by simpa using cj.trans cj.drew r2,fun k hk=>List.getElem?_set_ne (by omega)⟩
       refine .sl (by simpa using hbn) hc2 fun L' hL'=>?_
       simp only [bK,if_true,Option.some.injEq] at hL'
       subst hL'
       exact ⟨Nat.le_refl _,fun _=>⟨by simp,by simpa using hfit⟩⟩
      ·have hc1:cap=1:=by omega
       subst hc1
       refine (D3 (bs:=L.cb) (av:=⟨cb,off,none⟩) (capv:=capv) e3 hv rfl hne (by omega) a2 a3 (by omega) b2 b3).mono ?_
       rintro e w2 ⟨newCap,Z,hn2,hZ,rfl,k1,k2,k4,k3⟩
       have h74:2*37≤Z.size:=by have:=Nat.mul_le_mul_right 37 hn2;omega
       have hz1:(lR Z 0 B).size=Z.size:=fo (by omega)
       have hz2:(lR (lR Z 0 B) 37 A).size=Z.size:=by rw [fo (by omega),hz1]
       obtain ⟨r1,r2⟩:=hH.move e1 (g':=4*g+4) (by omega) (T:=98) (fr:=(0,0)) (.zero (by omega))
        (Ax (Z:=Z) (A:=A) (B:=B) h74 hr hq (by omega) (by omega) hz2 (fun j hj=>by rw [kI (by omega),if_neg (by omega),kI (by omega),if_pos (by omega)];simp) (fun j hj=>by rw [kI (by omega),if_pos (by omega)];simp) rB rA)
       have hk:∀(cb:Nat) (o:Obj),(w.alloc (.cells (lR (lR Z 0 B) 37 A) 98 (0,0))).heap[cb]?=some o→w2.heap[cb]?=some o:=by
        intro cb o ho
        have hlt:=(Array.getElem?_eq_some_iff.1 ho).1
        simp only [World.alloc,Array.size_push] at hlt
        rcases Nat.lt_or_ge cb w.heap.size with h | h
        ·rw [aX h] at ho;rw [k3 cb h];exact ho
        ·have:cb=w.heap.size:=by omega
         subst this
         rw [be] at ho;rw [k2];exact ho
       have hs:(w.alloc (.cells (lR (lR Z 0 B) 37 A) 98 (0,0))).heap.size≤w2.heap.size:=by rw [k1];simp
       refine ⟨_,_,rfl,?_,r1.keeps hs hk (k4),by simpa using r2.trans (cj.keeps hs hk k4),fun k hk=>List.getElem?_set_ne (by omega)⟩
       refine .sl (by simpa using hbn) hn2 fun L' hL'=>?_
       simp only [bK,if_true,Option.some.injEq] at hL'
       subst hL'
       exact ⟨Nat.le_refl _,fun _=>⟨by simp,by simp [hz2,hZ]⟩⟩
   ·cases h
  ·cases h
 ·cases h
end Go.Proofs.Ev
namespace Go.Proofs.Ev
inductive P2 where
 | code (base:Nat) (c:Code) (s:List AV) (H:ag)
 | seq (base:Nat) (ops:Array Oper) (l:List Oper) (s:List AV) (H:ag)
 | step (base:Nat) (ops:Array Oper) (o:Oper) (s:List AV) (H:ag)
 | call (base:Nat) (f:AV) (args:List AV) (H:ag)
 | func (base:Nat) (f:FuncId) (args:List AV) (H:ag)
inductive iG where
 | code (e:jG) (s:List AV) (H:ag)
 | seq (s:List AV) (H:ag)
 | val (v:AV) (H:ag)
def iG.c:Option iG→Option (jG×List AV×ag) | some (.code e s H)=>some (e,s,H) | _=>none
def iG.q:Option iG→Option (List AV×ag) | some (.seq s H)=>some (s,H) | _=>none
def iG.v:Option iG→Option (AV×ag) | some (.val v H)=>some (v,H) | _=>none
def iG.ofC:Option (jG×List AV×ag)→Option iG | some (e,s,H)=>some (.code e s H) | none=>none
def iG.ofQ:Option (List AV×ag)→Option iG | some (s,H)=>some (.seq s H) | none=>none
def iG.ofV:Option (AV×ag)→Option iG | some (v,H)=>some (.val v H) | none=>none
theorem iG.c_of (x:Option (jG×List AV×ag)):iG.c (iG.ofC x)=x:=by cases x<;>rfl
theorem iG.q_of (x:Option (List AV×ag)):iG.q (iG.ofQ x)=x:=by cases x<;>rfl
theorem iG.v_of (x:Option (AV×ag)):iG.v (iG.ofV x)=x:=by cases x<;>rfl
def GU {α:Type} (n:Int) (k:Int→α):α:=Int.casesOn n (fun m=>Nat.casesOn m (k 0) fun m'=>k (Int.ofNat (m'+1))) (fun m=>k (Int.negSucc m))
def Br {α:Type} (v:AV) (k:AV→α):α:=match v with | .int i n=>GU n fun n'=>k (.int i n') | .bool b=>(match b with | true=>k (.bool true) | false=>k (.bool false)) | v=>k v
noncomputable def pi {α β:Type} (l:List β) (k:List β→α):α:=List.rec (motive:=fun _=>(List β→α)→α) (fun k=>k []) (fun a _ ih k=>ih fun l'=>k (a::l')) l k
theorem Ep {α:Type} (n:Int) (k:Int→α):GU n k=k n:=by
 cases n with
 | ofNat m=>cases m<;>rfl
 | negSucc m=>rfl
theorem Er {α:Type} (v:AV) (k:AV→α):Br v k=k v:=by
 unfold Br
 split
 ·exact Ep _ _
 ·split<;>rfl
 ·rfl
theorem lD {α β:Type}:∀(l:List β) (k:List β→α),pi l k=k l
 | [],_=>rfl
 | a::l,k=>lD l fun l'=>k (a::l')
def Kl:Op→Bool
 | .move _ | .assign _ | .pick .. | .build .. | .buildSlice .. | .load .. | .nilCheck _ | .binOp .. | .unOp .. | .makeFunc .. | .slice .. | .fieldAddr .. | .indexAddr .. | .index .. | .lookup .. | .extract .. | .call { callee:=.builtin .len,.. }=>true
 | _=>false
noncomputable section
section run
variable (P:Program) (C:bG) (ih:P2→Option iG)
def ly (base:Nat) (c:Code) (s:List AV) (H:ag):=iG.c (ih (.code base c s H))
def Ij (base:Nat) (ops:Array Oper) (l:List Oper) (s:List AV) (H:ag):=iG.q (ih (.seq base ops l s H))
def AC (base:Nat) (ops:Array Oper) (o:Oper) (s:List AV) (H:ag):=iG.v (ih (.step base ops o s H))
def Gr (base:Nat) (f:AV) (args:List AV) (H:ag):=iG.v (ih (.call base f args H))
def vX (base:Nat) (f:FuncId) (args:List AV) (H:ag):=iG.v (ih (.func base f args H))
def ow (base:Nat) (c:Code) (s:List AV) (H:ag):Option (jG×List AV×ag) :=
 match c with
 | .skip=>some (.normal,s,H)
 | .label _=>some (.normal,s,H)
 | .ret=>some (.ret,s,H)
 | .exit id=>some (.exit id,s,H)
 | .seq a b =>
  match ly ih base a s H with
  | some (.normal,s',H')=>ly ih base b s' H'
  | r=>r
 | .cond x a b =>
  match aU s x with
  | .bool true=>ly ih base a s H
  | .bool false=>ly ih base b s H
  | _=>none
 | .block id b =>
  match ly ih base b s H with
  | some (.exit i,s',H')=>if i=id then some (.normal,s',H') else some (.exit i,s',H')
  | r=>r
 | .loop b =>
  match ly ih base b s H with
  | some (.normal,s',H')=>ly ih base (.loop b) s' H'
  | r=>r
 | .region _ ops false =>
  match Ij ih base ops ops.toList s H with
  | some (s',H')=>some (.normal,s',H')
  | none=>none
 | .region _ ops true =>
  match mB P ops (fun o s H=>AC ih base ops o s H) ops.toList s H with
  | some (tr,s',H')=>if jO ops tr H' (fun o s H=>AC ih base ops o s H) then pi s' fun s'=>pi H' fun H'=>some (.normal,s',H') else none
  | none=>none
 | .rangeFunc g ps assign body =>
  match aU s g with
  | .fn f caps =>
   match vX ih base f (.yld H.length::caps) (H++[.loop true none s ps.toList assign body]) with
   | some (_,H2) =>
    match H2[H.length]? with
    | some (.loop true none _ _ _ _)=>pi (H2.set H.length .dead) fun H3=>some (.normal,s,H3)
    | some (.loop false (some c) _ _ _ _)=>ly ih base c s (H2.set H.length .dead)
    | _=>none
   | none=>none
  | _=>none
 | _=>none
def ME (base:Nat) (ops:Array Oper) (l:List Oper) (s:List AV) (H:ag):Option (List AV×ag) :=
 match l with
 | []=>some (s,H)
 | o::rest =>
  match AC ih base ops o s H with
  | some (v,H')=>Br v fun v=>pi (nF s o.dst v) fun s1=>if Kl o.op then Ij ih base ops rest s1 H' else pi H' fun H1=>Ij ih base ops rest s1 H1
  | none=>none
def Iw (base:Nat) (ops:Array Oper) (o:Oper) (s:List AV) (H:ag):Option (AV×ag) :=
 match dL ops s o with
 | some true =>
  match o.op with
  | .call { callee:=.value f,args,.. }=>Gr ih base (aU s f) (args.toList.map (aU s)) H
  | _=>wm P C base H (aU s) o
 | some false=>some (.tup [],H)
 | none=>none
def yH (base:Nat) (f:AV) (args:List AV) (H:ag):Option (AV×ag) :=
 match f with
 | .fn f caps =>
  if C.pure f then
   match vX ih H.length f (args++caps) H with
   | some (r,H')=>match aJ H' H.length 3 r with | some r'=>some (r',H) | none=>none
   | none=>none
  else if C.frz f then
   match (args++caps).mapM (aJ H 0 6) with
   | some aS =>
    match vX ih 0 f aS [] with
    | some (r,_)=>if r.flat then some (r,H) else none
    | none=>none
   | none=>none
  else vX ih base f (args++caps) H
 | .yld b =>
  match H[b]? with
  | some (.loop true none slots ps assign body) =>
   if base≤b∧args.length=ps.length then
    match ly ih base assign (dJ ps args slots) H with
    | some (.normal,s1,H1) =>
     match H1[b]? with
     | some (.loop true none l1 p1 a1 b1) =>
      match ly ih base body s1 (H1.set b (.loop false none l1 p1 a1 b1)) with
      | some (e,_,H3) =>
       match H3[b]? with
       | some (.loop false none l3 p3 a3 b3)=>some (.bool e.code.isNone,H3.set b (.loop e.code.isNone e.code l3 p3 a3 b3))
       | _=>none
      | none=>none
     | _=>none
    | _=>none
   else none
  | _=>none
 | _=>none
def GX (base:Nat) (f:FuncId) (args:List AV) (H:ag):Option (AV×ag) :=
 match C.prim f with
 | some p=>p base args H
 | none =>
  match P.funcs[f]? with
  | some fn =>
   match fn.body with
   | some c =>
    pi (args++List.replicate (fn.ntmps-args.length) (.tup [])) fun s0 =>
    match ly ih base c s0 H with
    | some (.normal,s',H')=>(dR P H' s' fn.results.toList).map fun vs=>(ja vs,H')
    | some (.ret,s',H')=>(dR P H' s' fn.results.toList).map fun vs=>(ja vs,H')
    | _=>none
   | none=>none
  | none=>none
def MJ:P2→Option iG
 | .code base c s H=>iG.ofC (ow P ih base c s H)
 | .seq base ops l s H=>iG.ofQ (ME ih base ops l s H)
 | .step base ops o s H=>iG.ofV (Iw P C ih base ops o s H)
 | .call base f args H=>iG.ofV (yH C ih base f args H)
 | .func base f args H=>iG.ofV (GX P C ih base f args H)
end run
def r5 (P:Program) (C:bG) (n:Nat):P2→Option iG:=Nat.rec (fun _=>none) (fun _ ih r=>MJ P C ih r) n
theorem L5 (P:Program) (C:bG):∀n:Nat,(∀base c s H,r5 P C n (.code base c s H)=iG.ofC (aV P C n base c s H))∧(∀base ops l s H,r5 P C n (.seq base ops l s H)=iG.ofQ (jC P C n base ops l s H))∧
 (∀base ops o s H,r5 P C n (.step base ops o s H)=iG.ofV (bL P C n base ops o s H))∧(∀base f args H,r5 P C n (.call base f args H)=iG.ofV (dp P C n base f args H))∧(∀base f args H,r5 P C n (.func base f args H)=iG.ofV (cD P C n base f args H)):=by
 intro n
 induction n with
 | zero =>
  refine ⟨fun _ _ _ _=>?_,fun _ _ _ _ _=>?_,fun _ _ _ _ _=>?_,fun _ _ _ _=>?_,fun _ _ _ _=>?_⟩
  ·rw [aV];rfl
  ·rw [jC];rfl
  ·rw [bL];rfl
  ·rw [dp];rfl
  ·rw [cD];rfl
 | succ n ih =>
  obtain ⟨i1,i2,i3,i4,i5⟩:=ih
  have e1:∀base c s H,ly (r5 P C n) base c s H=aV P C n base c s H:=fun base c s H=>by rw [ly,i1,iG.c_of]
  have e2:∀base ops l s H,Ij (r5 P C n) base ops l s H=jC P C n base ops l s H:=fun base ops l s H=>by rw [Ij,i2,iG.q_of]
  have e3:∀base ops o s H,AC (r5 P C n) base ops o s H=bL P C n base ops o s H:=fun base ops o s H=>by rw [AC,i3,iG.v_of]
  have e4:∀base f args H,Gr (r5 P C n) base f args H=dp P C n base f args H:=fun base f args H=>by rw [Gr,i4,iG.v_of]
  have e5:∀base f args H,vX (r5 P C n) base f args H=cD P C n base f args H:=fun base f args H=>by rw [vX,i5,iG.v_of]
  refine ⟨fun base c s H=>?_,fun base ops l s H=>?_,fun base ops o s H=>?_,fun base f args H=>?_,fun base f args H=>?_⟩
  ·show iG.ofC (ow P (r5 P C n) base c s H)=_
   congr 1
   cases c with
   | region id ops draw =>
    cases draw
    ·simp only [aV,ow,e2]
     cases jC P C n base ops ops.toList s H<;>rfl
    ·simp only [aV,ow,e3,lD]
     cases mB P ops (fun o s H=>bL P C n base ops o s H) ops.toList s H<;>rfl
   | seq a b =>
    simp only [aV,ow,e1]
    cases aV P C n base a s H with
    | none=>rfl
    | some x=>obtain ⟨e,s',H'⟩:=x;cases e<;>rfl
   | cond x a b =>
    simp only [aV,ow,e1]
    cases aU s x with
    | bool t=>cases t<;>rfl
    | _=>rfl
   | block id b =>
    simp only [aV,ow,e1]
    cases aV P C n base b s H with
    | none=>rfl
    | some x=>obtain ⟨e,s',H'⟩:=x;cases e<;>rfl
   | loop b =>
    simp only [aV,ow,e1]
    cases aV P C n base b s H with
    | none=>rfl
    | some x=>obtain ⟨e,s',H'⟩:=x;cases e<;>rfl
   | rangeFunc g ps assign body =>
    simp only [aV,ow,e1,e5,lD]
    cases aU s g with
    | fn f caps =>
     simp only
     cases cD P C n base f (.yld H.length::caps) (H++[.loop true none s ps.toList assign body]) with
     | none=>rfl
     | some x =>
      obtain ⟨v,H2⟩:=x
      simp only
      cases H2[H.length]? with
      | none=>rfl
      | some y =>
       cases y with
       | loop r p l ps a b=>cases r<;>cases p<;>rfl
       | _=>rfl
    | _=>rfl
   | _=>simp only [aV,ow]
  ·show iG.ofQ (ME (r5 P C n) base ops l s H)=_
   congr 1
   cases l with
   | nil=>rw [jC];rfl
   | cons o rest =>
    rw [jC]
    unfold ME
    simp only [e2,e3,lD,Er,ite_self]
    cases bL P C n base ops o s H<;>rfl
  ·show iG.ofV (Iw P C (r5 P C n) base ops o s H)=_
   congr 1
   rw [bL]
   unfold Iw
   simp only [e4]
   cases dL ops s o with
   | none=>rfl
   | some b =>
    cases b with
    | false=>rfl
    | true =>
     simp only
     cases o.op with
     | call c =>
      obtain ⟨callee,args,ats⟩:=c
      cases callee<;>rfl
     | _=>rfl
  ·show iG.ofV (yH C (r5 P C n) base f args H)=_
   congr 1
   cases f with
   | fn f caps =>
    simp only [dp,yH,e5]
    split
    ·cases cD P C n H.length f (args++caps) H with
     | none=>rfl
     | some x =>
      obtain ⟨r,H'⟩:=x
      simp only
      cases aJ H' H.length 3 r<;>rfl
    ·split
     ·cases (args++caps).mapM (aJ H 0 6) with
      | none=>rfl
      | some av =>
       simp only
       cases cD P C n 0 f av [] with
       | none=>rfl
       | some x=>obtain ⟨r,H'⟩:=x;rfl
     ·rfl
   | yld b =>
    simp only [dp,yH,e1]
    cases H[b]? with
    | none=>rfl
    | some y =>
     cases y with
     | loop r p l ps a bd =>
      cases r
      ·rfl
      ·cases p
       ·simp only
        split
        ·cases aV P C n base a (dJ ps args l) H with
         | none=>rfl
         | some x =>
          obtain ⟨e,s1,H1⟩:=x
          cases e
          ·simp only
           cases H1[b]? with
           | none=>rfl
           | some y =>
            cases y with
            | loop r p l1 p1 a1 b1 =>
             cases r
             ·rfl
             ·cases p
              ·simp only
               cases aV P C n base bd s1 (H1.set b (.loop false none l1 p1 a1 b1)) with
               | none=>rfl
               | some x =>
                obtain ⟨e,s2,H3⟩:=x
                simp only
                cases H3[b]? with
                | none=>rfl
                | some y =>
                 cases y with
                 | loop r p l3 p3 a3 b3=>cases r<;>cases p<;>rfl
                 | _=>rfl
              ·rfl
            | _=>rfl
          ·rfl
          ·rfl
        ·rfl
       ·rfl
     | _=>rfl
   | _=>simp only [dp,yH]
  ·show iG.ofV (GX P C (r5 P C n) base f args H)=_
   congr 1
   rw [cD]
   unfold GX
   simp only [e1,lD]
   cases C.prim f with
   | some p=>rfl
   | none =>
    simp only
    cases P.funcs[f]? with
    | none=>rfl
    | some fn =>
     simp only
     cases fn.body with
     | none=>rfl
     | some c =>
      simp only
      cases aV P C n base c (args++List.replicate (fn.ntmps-args.length) (.tup [])) H with
      | none=>rfl
      | some x=>obtain ⟨e,s',H'⟩:=x;cases e<;>rfl
theorem GP {P:Program} {C:bG} {n base:Nat} {f:FuncId} {args:List AV} {H:ag}:iG.v (r5 P C n (.func base f args H))=cD P C n base f args H:=by
 rw [((L5 P C n).2.2.2.2) base f args H,iG.v_of]
end
end Go.Proofs.Ev
namespace Go.Proofs.Ev
open Go.Proofs
variable {N:gA} {φ φ':fE} {H:ag} {w w':World} {n n':Nat}
theorem gl:∀{l:List AV},AV.closeds l=true→∀{j:Nat} {v:AV},l[j]?=some v→v.closed=true
 | [],_,_,_,h=>by simp at h
 | a::l,hc,j,v,h=>by
  rw [AV.closeds,Bool.and_eq_true] at hc
  cases j with
  | zero=>simp at h;subst h;exact hc.1
  | succ j=>exact gl hc.2 (by simpa using h)
theorem p8:∀{l:List (List AV)},AV.closedss l=true→∀{i:Nat} {r:List AV},l[i]?=some r→AV.closeds r=true
 | [],_,_,_,h=>by simp at h
 | a::l,hc,i,r,h=>by
  rw [AV.closedss,Bool.and_eq_true] at hc
  cases i with
  | zero=>simp at h;subst h;exact hc.1
  | succ i=>exact p8 hc.2 (by simpa using h)
theorem RV.move {v:AV} {V:Value} (hn:∀cb,cK φ cb→cK φ' cb) (h:RV φ n w v V) (hc:v.closed=true):RV φ' n' w v V:=by
 induction h with
 | undef V=>cases hc
 | bool b=>exact .bool b
 | int k i=>exact .int k i
 | str l=>exact .str l
 | nilp=>exact .nilp
 | ptr _ _=>cases hc
 | eptr Vs hs hcc _ ih=>exact .eptr Vs hs (fun j v hj=>⟨(hcc j v hj).1,hn _ (hcc j v hj).2.1,(hcc j v hj).2.2⟩) fun j v hj=>ih j v hj (gl hc hj)
 | lst Vs esz hlen hcap he hbb _ ih =>
  refine .lst Vs esz hlen hcap he (fun hne=>?_) fun i row hi j v hj=>ih i row hi j v hj (gl (p8 hc hi) hj)
  obtain ⟨cb,off,h1,h2⟩:=hbb hne
  exact ⟨cb,off,h1,fun i row hi=>⟨(h2 i row hi).1,fun j v hj=>⟨((h2 i row hi).2 j v hj).1,hn _ ((h2 i row hi).2 j v hj).2.1,((h2 i row hi).2 j v hj).2.2⟩⟩⟩
 | sl _ _ _=>cases hc
 | asl _ _ _=>cases hc
 | nilm=>exact .nilm
 | nils=>exact .nils
 | map _ _=>cases hc
 | nilf=>exact .nilf
 | fn hl _ ih=>exact .fn hl fun j v V hj hV=>ih j v V hj hV (gl hc hj)
 | yld _ _=>cases hc
 | agg hl hf _ ih=>exact .agg hl hf fun j v V hj hV=>ih j v V hj hV (gl hc hj)
 | tup hl _ ih=>exact .tup hl fun j v V hj hV=>ih j v V hj hV (gl hc hj)
def iP (φ:fE):fE:=⟨fun _=>none,fun cb=>φ.res cb∨∃b L,φ b=some L∧L.cb=cb⟩
theorem mp {cb:Nat}:cK (iP φ) cb↔cK φ cb:=by
 constructor
 ·rintro ⟨_,h⟩
  exact ⟨fun b L hL e=>h (.inr ⟨b,L,hL,e⟩),fun hr=>h (.inl hr)⟩
 ·rintro ⟨h1,h2⟩
  refine ⟨fun b L hL=>by simp [iP] at hL,?_⟩
  rintro (h | ⟨b,L,hL,e⟩)
  ·exact h2 h
  ·exact h1 b L hL e
theorem HR.hide (h:HR N φ H w):HR N (iP φ) [] w:={
 low:=h.low
 kept:=fun cb c T fr hc=>⟨(h.kept cb c T fr hc).1,mp.2 (h.kept cb c T fr hc).2⟩
 dead b _:=rfl
 base b L hL:=by simp [iP] at hL
 inj b b' L L' hL:=by simp [iP] at hL
 resn b L hL:=by simp [iP] at hL
 ress cb hr:=by
  rcases hr with hr | ⟨b,L,hL,rfl⟩
  ·exact h.ress cb hr
  ·exact (h.base b L hL).2
 rows b esz g rs hb:=by simp at hb
 map b es hb:=by simp at hb
 loop b r p s ps a c hb:=by simp at hb
 it b m k st hb:=by simp at hb }
theorem Bh {P:Program} {C:bG} (hS:C.Sound P N) {n:Nat} {f:FuncId} {av:List AV} {v:AV} (hf:((cD P C n 0 f av []).bind fun r=>aJ r.2 0 6 r.1)=some v) (ha:AV.closeds av=true) (hv:v.closed=true) (hH:HR N φ H w) {Vs:Array Value} (hargs:kN (fun v V=>RV φ H.length w v V) av Vs.toList) :
 CallsIn (Fw none) 0 P f Vs w fun e w'=>∃V,e=.returned V∧RV φ H.length w' v V∧HR N φ H w'∧cj φ H.length w φ H.length w':=by
 cases hf1:cD P C n 0 f av [] with
 | none=>rw [hf1] at hf;cases hf
 | some r =>
  obtain ⟨v1,H1⟩:=r
  rw [hf1] at hf
  simp only [Option.bind_some] at hf
  obtain ⟨_,hc⟩:=(qR hS n).2.2.2.2.1 0 f av [] _ _ hf1
  have hall0:kN (fun v V=>RV (iP φ) 0 w v V) av Vs.toList:=by
   have h1:=hargs.get
   refine kN.of_get h1.1 fun i x y hx hy=>?_
   obtain ⟨V,h2,h3⟩:=h1.2 i x hx
   rw [h2] at hy;cases hy
   exact h3.move (fun cb=>mp.2) (gl ha hx)
  refine (hc (Nat.le_refl _) hH.hide hall0).mono ?_
  rintro e w' ⟨V,φ',rfl,hrv,h1,hx,hlow⟩
  have hres:∀cb,φ'.res cb↔(iP φ).res cb:=fun cb=>by rw [hx.res]
  have pres:∀(cb:Nat) (o:Obj),w.heap[cb]?=some o→w'.heap[cb]?=some o:=by
   intro cb o ho
   by_cases hr:(iP φ).res cb
   ·exact hx.keep cb o hr ho
   ·exact hx.same cb o ho ⟨fun b L hL=>by simp [iP] at hL,hr⟩
  refine ⟨V,rfl,?_,hH.keeps hx.size pres hx.env,cj.keeps hx.size pres hx.env⟩
  refine (eU h1 6 hf hrv).move (fun cb hn=>?_) hv
  refine mp.1 ⟨fun b L hL=>by simp [iP] at hL,fun hr=>hn.2 ?_⟩
  exact (hres cb).2 hr
structure F4 where
 f:FuncId
 a:List AV
 v:AV
def mS (N:gA) (r:F4):Prop:=(∃fn:Func,Tryz.prog.funcs[r.f]?=some fn∧fn.body.isSome=true)∧∀φ H w (Vs:Array Value),HR N φ H w→kN (fun v V=>RV φ H.length w v V) r.a Vs.toList→
 CallsIn (Fw none) 0 Tryz.prog r.f Vs w fun e w'=>∃V φ',e=.returned V∧RV φ' H.length w' r.v V∧HR N φ' H w'∧cj φ H.length w φ' H.length w'
def KH (T:List F4) (f:FuncId) (_:Nat) (args:List AV) (H:ag):Option (AV×ag) :=
 match T.find? fun r=>r.f==f&&AV.beqs r.a args with
 | some r=>some (r.v,H)
 | none=>none
theorem IB {T:List F4} (hT:∀r∈T,mS N r) {f:FuncId} (hf:T.any (fun r=>r.f==f)=true):fZ Tryz.prog N f (KH T f):=by
 obtain ⟨r0,h0,h1⟩:=List.any_eq_true.1 hf
 have h1:r0.f=f:=by simpa using h1
 refine ⟨h1▸(hT r0 h0).1,fun base args H v H' h φ w Vs hb hH ht=>?_⟩
 unfold KH at h
 split at h
 ·rename_i r hr
  cases h
  have hm:=List.mem_of_find?_eq_some hr
  have hp:=List.find?_some hr
  simp only [Bool.and_eq_true,beq_iff_eq] at hp
  obtain ⟨rfl,hb2⟩:=hp
  have:=l5 _ _ hb2
  subst this
  refine ((hT r hm).2 φ H w Vs hH ht).mono ?_
  rintro e w' ⟨V,φ',h1,h2,h3,h4⟩
  exact ⟨V,φ',h1,h2,h3,h4,fun _ _=>rfl⟩
 ·cases h
theorem n8 {C:bG} (hS:C.Sound Tryz.prog N) {f:FuncId} {a:List AV} {v:AV} (hp:C.pure f=true) (hr:cE Tryz.prog C f [] a v) (hb:∃fn:Func,Tryz.prog.funcs[f]?=some fn∧fn.body.isSome=true):mS N ⟨f,a,v⟩:=by
 refine ⟨hb,fun φ H w Vs hH ht=>?_⟩
 obtain ⟨n,h⟩:=hr 0 H
 cases n with
 | zero=>simp [dp] at h
 | succ n =>
  simp only [dp,hp,if_true,List.append_nil] at h
  cases hf:cD Tryz.prog C n H.length f a H with
  | none=>rw [hf] at h;cases h
  | some vh =>
   obtain ⟨v1,H1⟩:=vh
   rw [hf] at h
   simp only at h
   cases hfr:aJ H1 H.length 3 v1 with
   | none=>rw [hfr] at h;cases h
   | some v2 =>
    rw [hfr] at h;cases h
    obtain ⟨_,hc⟩:=(qR hS n).2.2.2.2.1 H.length f a H v1 H1 hf
    refine (hc (Nat.le_refl _) hH ht).mono ?_
    rintro e w' ⟨V,φ',rfl,hv,h1,hx,hlow⟩
    exact ⟨V,cI φ' H.length,rfl,eU h1 3 hfr hv,hH.cut h1 hlow,hx.cut⟩
theorem KA {C:bG} (hS:C.Sound Tryz.prog N) {n:Nat} {f:FuncId} {a:List AV} {v:AV} (hf:((cD Tryz.prog C n 0 f a []).bind fun r=>aJ r.2 0 6 r.1)=some v) (ha:AV.closeds a=true) (hv:v.closed=true) (hb:∃fn:Func,Tryz.prog.funcs[f]?=some fn∧fn.body.isSome=true):mS N ⟨f,a,v⟩ :=
 ⟨hb,fun φ H w Vs hH ht=>(Bh hS hf ha hv hH ht).mono fun e w' ⟨V,h1,h2,h3,h4⟩=>⟨V,φ,h1,h2,h3,h4⟩⟩
end Go.Proofs.Ev
namespace Go.Proofs.Ev
open Go.Proofs Go.Sort
def Tg:aW:={ rM with kind:=1,type:=1 }
def Th:aW:={ rM with kind:=2,parent:=nI,name:=[102] }
def Ti:aW:={ rM with kind:=5,lines:=[[120],[121]],linesK:=.exact }
def p1:aC:=⟨[97,110,110],[],0,[],.nil,[Tg,Th,Ti],.exact⟩
def d1:ar:=⟨[226,249,67,36,224,136,119,52,116,112,63,225,173,69,214,183,113,16,111,186,229,28,180,40,14,159,111,192,115,126,3,9],by decide,by decide⟩
def AP (d:ar) (n:Int):aI:=⟨d.d,n,d.h,d.b⟩
def p2:aC:=⟨[98,111,98],[],0,[],.nil,[{ rM with kind:=7,over:=[AP d1 2],overK:=.exact }],.exact⟩
def d2:ar:=⟨[180,232,99,19,238,250,85,112,0,7,167,54,126,144,140,62,33,237,98,193,158,36,208,198,45,253,132,232,210,167,111,29],by decide,by decide⟩
theorem xJ:p1.Good:={
 fit:=(xp ⟨by simp [p1],by simp [p1],by simp [p1],by simp [p1],by
  intro c hc
  simp only [p1,List.mem_cons,List.not_mem_nil,or_false] at hc
  rcases hc with rfl | rfl | rfl<;>exact ⟨by decide,by decide,by decide,by decide,by decide⟩⟩ (by kernel_rfl)).1
 ok:=by kernel_rfl
 n:=by have:(aR p1).length=7:=by kernel_rfl
       omega }
theorem xK:p2.Good:={
 fit:=(xp ⟨by simp [p2],by simp [p2],by simp [p2],by simp [p2],by
  intro c hc
  simp only [p2,List.mem_cons,List.not_mem_nil,or_false] at hc
  subst hc
  exact ⟨by decide,by decide,by decide,by decide,by decide⟩⟩ (by kernel_rfl)).1
 ok:=by kernel_rfl
 n:=by have:(aR p2).length=1:=by kernel_rfl
       omega }
theorem HB:p1.dig=d1:=ar.ext' (by kernel_rfl)
theorem HC:p2.dig=d2:=ar.ext' (by kernel_rfl)
theorem nL {α:Type} [Inhabited α] {cf:α→α→Int} (hO:SWO (ltOf cf)) {l:List α} (h:l.length≤1):iF cf l=l:=by
 have hp:=kH hO l
 match l,h with
 | [],_=>exact hp.eq_nil
 | [x],_=>exact List.perm_singleton.1 hp
 | _::_::_,h=>simp at h
def OV:aZ:=⟨id,id⟩
theorem Gi {p:aC} (h:∀x∈aR p,x.over.length≤1):bj pC p=(aR p).map (pH OV p.dig):=by
 refine List.map_congr_left fun x hx=>?_
 unfold pH
 have:=nL pF (l:=x.over.map fun z=>ba z p.dig) (by rw [List.length_map];exact h x hx)
 show ({ qS p.dig (sF p.dig (sE p.dig (DV p.dig x))) with over:=iF dA (x.over.map fun z=>ba z p.dig),overK:=dS x.over }:aH)=_
 rw [this];rfl
theorem over1 {l:List aH} (h:(l.all fun x=>decide (x.over.length≤1))=true):∀x∈l,x.over.length≤1:=fun x hx=>by simpa using List.all_eq_true.1 h x hx
variable {N:gA}
theorem HF:fZ Tryz.prog N 5 (fun _ _ _=>none):=⟨⟨_,Tryz.func5,rfl⟩,fun _ _ _ _ _ h=>by cases h⟩
def Rs (p:aC) (d:ar):AV:=.tup [.lst (((aR p).map (pH OV d)).map aH.cells) false,.int .i64 0]
def Ia:List F4:=[⟨40,[.agg p1.cells],.tup [.agg d1.cells,.int .i64 0]⟩,⟨40,[.agg p2.cells],.tup [.agg d2.cells,.int .i64 0]⟩,
 ⟨57,[.agg p1.cells],Rs p1 d1⟩,⟨57,[.agg p2.cells],Rs p2 d2⟩,
 ⟨66,[.agg p1.cells],.lst [] true⟩,⟨66,[.agg p2.cells],.lst [d1.cells] false⟩]
theorem Mr:co pC p1=[]:=by
 have h:cW p1=[]:=by rfl
 have:iF (fun a b:ar=>bZ a.d b.d) []=[]:=nL od (by simp)
 unfold co pC
 rw [h]
 simp only
 rw [this];rfl
theorem Hk:cW p2=[d1]:=by rfl
theorem Ib (hT:fC Tryz.prog N) (hG:jr N) (hL:lc N):∀r∈Ia,mS N r:=by
 have hS:=Ir hT hG hL (HF (N:=N))
 have hQ:d9 (dE fun _ _ _=>none) pC:=ui
 have hR:j9 (dE fun _ _ _=>none) pC:=uj
 intro r hr
 simp only [Ia,List.mem_cons,List.not_mem_nil,or_false] at hr
 rcases hr with rfl | rfl | rfl | rfl | rfl | rfl
 ·have:=xT pp p1 xJ (C:=dE fun _ _ _=>none)
  rw [HB] at this
  exact n8 hS (by kernel_rfl) this ⟨_,Tryz.func40,rfl⟩
 ·have:=xT pp p2 xK (C:=dE fun _ _ _=>none)
  rw [HC] at this
  exact n8 hS (by kernel_rfl) this ⟨_,Tryz.func40,rfl⟩
 ·have:=j4 hQ p1 xJ
  rw [Gi (over1 (by kernel_rfl)),HB] at this
  exact n8 hS (by kernel_rfl) this ⟨_,Tryz.func57,rfl⟩
 ·have:=j4 hQ p2 xK
  rw [Gi (over1 (by kernel_rfl)),HC] at this
  exact n8 hS (by kernel_rfl) this ⟨_,Tryz.func57,rfl⟩
 ·have:=rF hR p1 xJ
  rw [Mr] at this
  exact n8 hS (by kernel_rfl) this ⟨_,Tryz.func66,rfl⟩
 ·have:=rF hR p2 xK
  have hn:co pC p2=[d1]:=by
   unfold co pC
   rw [Hk]
   simp only
   rw [nL od (by simp)];rfl
  rw [hn,Hk] at this
  exact n8 hS (by kernel_rfl) this ⟨_,Tryz.func66,rfl⟩
end Go.Proofs.Ev
namespace Go.Proofs.Ev
open Go.Proofs
variable {N:gA}
def G7:List LK:=List.replicate 32 (.int .u8)
def BW (t:TypeId):Option (List LK) :=
 if t=25 then some G7 else if t=27 then some (G7++[.int .i64]) else
 if t=75 then some (.int .i64::(G7++(G7++[.int .i64]))) else if t=72 then some (G7++[.int .i64,.str,.int .i64]) else
 if t=51 then some [.int .i64,.int .i64] else if t=248 then some (G7++[.int .i64,.str]) else none
def pureA:List FuncId:=[293,285,242,241,240,120,119,227,224,223,221,70,163,161,160,159,65,63,155,154,149,143,109,31,95,94,27,23,61,64,89,66,82,69,80,58,25,102,99,11,55,50,9,48,43,41,40,100,57,56,21,20,19,18,6,16,15,14,53,17]
def HG (T:List F4) (f:FuncId):Option (Nat→List AV→ag→Option (AV×ag)) :=
 if f=109 then some zW else if f=46 then some Mx else if T.any (fun r=>r.f==f) then some (KH T f) else none
def tC (T:List F4):bG:=⟨HG T,fun f=>pureA.contains f,fun _=>false,BW⟩
theorem EC:∀t ks,BW t=some ks→dg Tryz.prog 20 t=some ks∧Tryz.prog.eqGuardType Tryz.prog.depth t=false∧bb Tryz.prog t=some true:=by
 intro t ks h
 unfold BW at h
 split at h
 ·rename_i ht;subst ht;cases h;exact ⟨by kernel_rfl,by kernel_rfl,by kernel_rfl⟩
 split at h
 ·rename_i ht;subst ht;cases h;exact ⟨by kernel_rfl,by kernel_rfl,by kernel_rfl⟩
 split at h
 ·rename_i ht;subst ht;cases h;exact ⟨by kernel_rfl,by kernel_rfl,by kernel_rfl⟩
 split at h
 ·rename_i ht;subst ht;cases h;exact ⟨by kernel_rfl,by kernel_rfl,by kernel_rfl⟩
 split at h
 ·rename_i ht;subst ht;cases h;exact ⟨by kernel_rfl,by kernel_rfl,by kernel_rfl⟩
 split at h
 ·rename_i ht;subst ht;cases h;exact ⟨by kernel_rfl,by kernel_rfl,by kernel_rfl⟩
 cases h
theorem MI (hT:fC Tryz.prog N) {T:List F4} (hr:∀r∈T,mS N r):(tC T).Sound Tryz.prog N:={
 fits:=⟨EC⟩
 mixed:=by kernel_rfl
 tag:=hT
 names:=qu
 prim f q h:=by
  change HG T f=some q at h
  unfold HG at h
  split at h
  ·rename_i hf;subst hf;cases h;exact GD N
  split at h
  ·rename_i hf;subst hf;cases h;exact Mn hT
  split at h
  ·rename_i hf;cases h;exact IB hr hf
  cases h }
theorem G6 (hL:lc N):mS N ⟨155,[.int .i64 0],.str [48]⟩:=by
 refine ⟨⟨_,Tryz.func155,rfl⟩,fun φ H w Vs hH ht=>?_⟩
 have h:uy 0 [.int .i64 0] H=some (.str [48],H):=by
  show (if (-9223372036854775808:Int)≤0∧(0:Int)≤9223372036854775807 then some (AV.str (m6 0),H) else none)=_
  rw [if_pos ⟨by decide,by decide⟩]
  have:m6 0=[48]:=by simp [m6,ld]
  rw [this]
 refine ((Dn hL).2 0 _ H _ _ h φ w Vs (Nat.zero_le _) hH ht).mono ?_
 rintro e w' ⟨V,φ',h1,h2,h3,h4,_⟩
 exact ⟨V,φ',h1,h2,h3,h4⟩
def oL:List F4:=⟨155,[.int .i64 0],.str [48]⟩::Ia
theorem Aw (hT:fC Tryz.prog N) (hG:jr N) (hL:lc N):∀r∈oL,mS N r:=by
 intro r hr
 rcases List.mem_cons.1 hr with rfl | hr
 ·exact G6 hL
 ·exact Ib hT hG hL r hr
theorem iU {T:List F4} (hT:fC Tryz.prog N) (hr:∀r∈T,mS N r) {n:Nat} {f:FuncId} {a:List AV} {v:AV} (hf:((iG.v (r5 Tryz.prog (tC T) n (.func 0 f a []))).bind fun r=>aJ r.2 0 6 r.1)=some v) (ha:AV.closeds a=true) (hv:v.closed=true) (hb:∃fn:Func,Tryz.prog.funcs[f]?=some fn∧fn.body.isSome=true):mS N ⟨f,a,v⟩ :=
 KA (MI hT hr) (by rw [GP] at hf;exact hf) ha hv hb
end Go.Proofs.Ev
