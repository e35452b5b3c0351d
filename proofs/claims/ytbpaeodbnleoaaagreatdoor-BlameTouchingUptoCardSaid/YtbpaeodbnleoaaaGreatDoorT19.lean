/- Part 19 of the proof that quiltlaw38.BlameTouching returns true: no statement of its own. -/
import Derived.Test.YtbpaeodbnleoaaaGreatDoorT18
import Derived.Test.YtbpaeodbnleoaaaGreatDoorT14
import Derived.Test.YtbpaeodbnleoaaaGreatDoorT12
import Derived.Test.YtbpaeodbnleoaaaGreatDoorT15
import Derived.Lib.Builder
import Derived.Lib.UnsafeStr
import Derived.Shelf.SlSortCmp.WholeK
import Derived.Test.YtbpaeodbnleoaaaGreatDoorT8
import Derived.Shelf.RegionOpen
import Derived.Sort.Grow
set_option linter.all false
namespace Go.Proofs.Ev
open Go.Proofs
variable {C:bG} {σ:aZ}
def pL (sz:Nat) (X:ag) (v:AV) (rows:List (List AV)):Prop:=(rows=[]∧v=.nils)∨v=.lst rows true∨∃b g,v=.sl b g sz 0 rows.length∧X[b]?=some (.rows sz g rows)
theorem aT.abs {n sz:Nat} {Z J:ag} {v:AV} {rows:List (List AV)} (hg:aT n sz J v rows) (hn:n=Z.length):pL sz (Z++J) v rows:=by
 subst hn
 rcases hg with h | h | ⟨b,g,h,hb⟩
 ·exact .inl h
 ·exact .inr (.inl h)
 ·exact .inr (.inr ⟨_,g,h,by rw [bt];exact hb⟩)
theorem pL.stays {sz sz':Nat} {X X':ag} {v:AV} {rows:List (List AV)} (hg:pL sz X v rows) (hs:fl sz' X X') (hne:sz≠sz'):pL sz X' v rows:=by
 rcases hg with h | h | ⟨b,g,h,hb⟩
 ·exact .inl h
 ·exact .inr (.inl h)
 ·exact .inr (.inr ⟨b,g,h,hs _ _ hb (by intro g' rs h;cases h;exact hne rfl)⟩)
theorem fl.head {sz:Nat} {Z J J':ag} (h:fl sz J J'):fl sz (Z++J) (Z++J'):=by
 intro k blk hk hb
 rcases Nat.lt_or_ge k Z.length with hz | hz
 ·rw [List.getElem?_append_left hz] at hk ⊢;exact hk
 ·rw [List.getElem?_append_right hz] at hk ⊢;exact h _ _ hk hb
theorem fl.at {sz:Nat} {H J J':ag} {a:bQ} (h:fl sz J J'):fl sz (H++a::J) (H++a::J'):=by
 have:=h.head (Z:=H++[a])
 simpa using this
theorem pL.at {P:Program} {t e:TypeId} {sz:Nat} (h:P.underlying t=some (.slice e)) (hs:bF P e=some sz) {X:ag} {v:AV} {rows:List (List AV)} (hg:pL sz X v rows) {i:Nat} (hi:i<rows.length) (hr:rows[i].length=sz) (k:IntKind) :
 ∃a,aY P t v (.int k (i:Int))=some a∧∀t',jH P X t' a=gG P t' rows[i]:=by
 rcases hg with ⟨rfl,rfl⟩ | rfl | ⟨b,g,rfl,hb⟩
 ·simp at hi
 ·refine ⟨.eptr rows[i],?_,fun t'=>by simp⟩
  rw [rl h hs];simp [hi,hr]
 ·refine ⟨.ptr b g sz i 0,?_,fun t'=>?_⟩
  ·rw [uh h hs];simp [hi]
  ·rw [ul,eL hb];simp [hi]
theorem pL.len {P:Program} {t e:TypeId} (h:P.underlying t=some (.slice e)) {sz:Nat} {X H:ag} {v:AV} {rows:List (List AV)} (hg:pL sz X v rows):fc P H t v.denil=some (.int .i64 rows.length):=by
 rcases hg with ⟨rfl,rfl⟩ | rfl | ⟨b,g,rfl,_⟩
 ·exact fQ h H [] true
 ·exact fQ h H _ true
 ·exact mq h H _ _ _ _ _
theorem uf {H:ag} {k d b g sz:Nat} {m z:List (List AV)} (hg:H[b]?=some (.rows sz g (m++z))) (hk:k≤b) (hc:AV.closedss m=true):aJ H k (d+1) (.sl b g sz 0 m.length)=some (.lst m false):=by
 have h1:List.take m.length (m++z)=m:=by simp
 simp only [aJ,AV.closed,Bool.false_eq_true,if_false,hk,if_true,cF,hg,and_self,Nat.zero_add,List.length_append,Nat.le_add_right,List.drop_zero,h1,Option.bind_some,hc,Option.map_some]
def bO:List ar→List ar
 | a::b::l=>if a.d=b.d then bO (b::l) else a::bO (b::l)
 | l=>l
theorem nW:∀(l:List ar) (d:List Nat),(∃x∈bO l,x.d=d)↔∃x∈l,x.d=d
 | [],d=>by simp [bO]
 | [a],d=>by simp [bO]
 | a::b::l,d=>by
  have ih:=nW (b::l) d
  rw [bO]
  split
  ·rename_i h
   rw [ih]
   constructor
   ·rintro ⟨x,hx,rfl⟩;exact ⟨x,by simp [List.mem_cons.1 hx],rfl⟩
   ·rintro ⟨x,hx,rfl⟩
    rcases List.mem_cons.1 hx with rfl | hx
    ·exact ⟨b,by simp,h.symm⟩
    ·exact ⟨x,hx,rfl⟩
  ·constructor
   ·rintro ⟨x,hx,rfl⟩
    rcases List.mem_cons.1 hx with rfl | hx
    ·exact ⟨x,by simp,rfl⟩
    ·obtain ⟨y,hy,he⟩:=ih.1 ⟨x,hx,rfl⟩;exact ⟨y,by simp [List.mem_cons.1 hy],he⟩
   ·rintro ⟨x,hx,rfl⟩
    rcases List.mem_cons.1 hx with rfl | hx
    ·exact ⟨x,by simp,rfl⟩
    ·obtain ⟨y,hy,he⟩:=ih.2 ⟨x,hx,rfl⟩;exact ⟨y,by simp [hy],he⟩
theorem qY:∀l:List ar,(bO l).length≤l.length∧(l≠[]→bO l≠[])
 | []=>by simp [bO]
 | [a]=>by simp [bO]
 | a::b::l=>by
  have ih:=qY (b::l)
  rw [bO]
  split
  ·exact ⟨by have:=ih.1;simp at this ⊢;omega,fun _=>ih.2 (by simp)⟩
  ·exact ⟨by have:=ih.1;simp at this ⊢;omega,fun _=>by simp⟩
structure j9 (C:bG) (σ:aZ):Prop extends d9 C σ where
 permD:∀l,(σ.d l).Perm l
 sortD:∀{base:Nat} {H:ag} {b g:Nat} {l:List ar},l.length≤2^40→base≤b→H[b]?=some (.rows 32 g (l.map ar.cells))→∀K:AV→ag→Prop,
  aD Tryz.prog C base (.fn 68 []) [.sl b g 32 0 l.length,.fn 69 []] H K=K (.tup []) (H.set b (.rows 32 g ((σ.d l).map ar.cells)))
 sortD0:∀{base:Nat} {H:ag} (K:AV→ag→Prop),aD Tryz.prog C base (.fn 68 []) [.lst [] true,.fn 69 []] H K=K (.tup []) H
 cloneD:∀{base:Nat} {H:ag} {k:SK} {l:List ar},l.length≤2^20→∀K:AV→ag→Prop,aD Tryz.prog C base (.fn 122 []) [aw k (l.map ar.cells)] H K =
  if l=[] then K (.lst [] true) H else K (.sl H.length 0 32 0 l.length) (H++[.rows 32 0 (l.map ar.cells)])
 compD:∀{base:Nat} {H:ag} {b g:Nat} {l:List ar},l.length≤2^40→base≤b→H[b]?=some (.rows 32 g (l.map ar.cells))→∃z,∀K:AV→ag→Prop,
  aD Tryz.prog C base (.fn 125 []) [.sl b g 32 0 l.length] H K=K (.sl b g 32 0 (bO l).length) (H.set b (.rows 32 g ((bO l).map ar.cells++z)))
 compD0:∀{base:Nat} {H:ag} (K:AV→ag→Prop),aD Tryz.prog C base (.fn 125 []) [.lst [] true] H K=K (.lst [] true) H
def dG (c:aW):List aI:=(jJ c 0).map Prod.fst
theorem Fg (c:aW) (b:Nat):(jJ c b).map Prod.fst=dG c:=by
 unfold dG jJ iD jb
 simp only [List.map_append,List.map_map]
 congr 2
 congr 1
 split<;>rfl
def ew (l:List aI):List ar:=(l.filter fun x=>!bC x.d).map aI.dv
def cW (p:aC):List ar:=p.deps++(p.changes.map fun c=>ew (dG c)).flatten
def co (σ:aZ) (p:aC):List ar:=bO (σ.d (cW p))
theorem zU {l:List aI} {i:Nat} {x:aI} (h:l[i]?=some x):ew (l.take (i+1))=ew (l.take i)++(if bC x.d then [] else [x.dv]):=by
 unfold ew
 rw [List.take_add_one,h]
 cases hz:bC x.d<;>simp [hz]
theorem uD (c:aW) (h:c.over.length≤400):(dG c).length≤404:=by
 have n1:(fD c).length≤1:=by unfold fD;split<;>simp
 have n2:(gK c).length≤1:=by unfold gK;split<;>simp
 have n3:(iD c 0).length≤2:=by unfold iD;split<;>simp
 have n4:(jb c 0 c.over.length).length≤400:=by simp [jb];omega
 simp [dG,jJ];omega
theorem pu (l:List aI):(ew l).length≤l.length:=by unfold ew;rw [List.length_map];exact List.length_filter_le _ _
def NT (v:AV) (rows:List (List AV)):Prop:=(rows=[]∧v=.lst [] true)∨(rows≠[]∧∃b g l,v=.sl b g 32 0 l)
def AU (p:aC) (H:ag) (l:List ar) (v:AV) (X:ag):Prop:=∃J,aT (H.length+1) 32 J v (l.map ar.cells)∧NT v (l.map ar.cells)∧X=H++.rows 5 0 [p.cells]::J
set_option maxRecDepth 100000 in
set_option maxHeartbeats 8000000 in
theorem rF (S:j9 C σ) (p:aC) (hp:p.Good):cE Tryz.prog C 66 [] [.agg p.cells] (aw (if cW p=[] then .exact else .loose) ((co σ p).map ar.cells)):=by
 refine aB (S.pureP _ (by decide)) fun H=>am Tryz.func66 rfl (S.prim _ (by decide)) (by simp) (by kernel_rfl) ?_
 unfold Tryz.f66
 have ec:=(Ck S.tofk p hp).eq
 have hdl:=hp.head.2.2.2.2
 have hcl:=hp.head.2.2.1
 have ecl:=fun H' K=>S.cloneD (base:=H.length) (H:=H') (k:=p.depsK) (l:=p.deps) (by omega) K
 refine cut (fun s H'=>s 1=.ptr H.length 0 5 0 0∧H'=H++[.rows 5 0 [p.cells]]) ?_ ?_
 ·simp [aG]
 rintro s H' ⟨q1,rfl⟩
 refine cut (fun s H'=>s 1=.ptr H.length 0 5 0 0∧H'=H++[.rows 5 0 [p.cells]]) ?_ ?_
 ·simp [q1,ec]
 clear q1
 rintro s H' ⟨q1,rfl⟩
 refine cut (fun s H'=>s 1=.ptr H.length 0 5 0 0∧AU p H p.deps (s 3) H') ?_ ?_
 ·by_cases hd:p.deps=[]
  ·simp only [hd,List.map_nil,if_true] at ecl
   simp [q1,ecl,hd]
   exact ⟨[],.inr (.inl rfl),.inl ⟨rfl,rfl⟩,rfl⟩
  ·simp [q1,ecl,hd]
   exact ⟨_,.inr (.inr ⟨0,0,by simp,rfl⟩),.inr ⟨by simpa using hd,_,_,_,rfl⟩,rfl⟩
 clear q1
 rintro s X ⟨q1,hN⟩
 have rsz:∀(l:List ar),∀r∈l.map ar.cells,r.length=32:=fun l r hr=>by obtain ⟨y,_,rfl⟩:=List.mem_map.1 hr;simp
 refine cut (fun s X=>AU p H (cW p) (s 3) X∧(cW p).length≤2^20) ?_ ?_
 ·have hb1:ax X H.length 0 5 0=some p.cells:=by obtain ⟨J,_,_,rfl⟩:=hN;simp
  simp [q1,hb1]
  refine az p.changes.length (fun i s X=>s 1=.ptr H.length 0 5 0 0∧s 15=aw p.changesK (p.changes.map aW.cells)∧s 16=.int .i64 p.changes.length∧s 17=.int .i64 i∧
   AU p H (p.deps++((p.changes.take i).map fun c=>ew (dG c)).flatten) (s 3) X∧(p.deps++((p.changes.take i).map fun c=>ew (dG c)).flatten).length≤100+404*i) ?_ ?_
  ·exact ⟨q1,rfl,rfl,rfl,by simpa using hN,by simp;omega⟩
  clear q1 hN hb1
  rintro i s X ⟨q1,q15,q16,q17,hN,hln⟩ hi
  by_cases h:i<p.changes.length
  rotate_left
  ·have h':i=p.changes.length:=by omega
   subst h'
   rw [List.take_length] at hN hln
   simp [q15,q16,q17]
   exact ⟨hN,Nat.le_trans hln (by omega)⟩
  obtain ⟨c,hc⟩:∃c,c=p.changes[i]:=⟨_,rfl⟩
  have hci:p.changes[i]?=some c:=by rw [hc];exact List.getElem?_eq_getElem h
  have hcg:=(hp.change hci).1
  obtain ⟨D,hD⟩:∃D,D=p.deps++((p.changes.take i).map fun c=>ew (dG c)).flatten:=⟨_,rfl⟩
  rw [←hD] at hN hln
  have hDs:p.deps++((p.changes.take (i+1)).map fun c=>ew (dG c)).flatten=D++ew (dG c):=by
   rw [hD,List.take_add_one,hci];simp
  have hRl:=uD c hcg.on
  have hol:=pu (dG c)
  refine cut (fun s X=>s 18=.bool true∧s 1=.ptr H.length 0 5 0 0∧s 15=aw p.changesK (p.changes.map aW.cells)∧s 16=.int .i64 p.changes.length∧s 17=.int .i64 i∧AU p H D (s 3) X) ?_ ?_
  ·simp [q1,q15,q16,q17,h,hN]
  clear q1 q15 q16 q17 hN
  rintro s X ⟨q18,q1,q15,q16,q17,hN⟩
  refine cut (fun s X=>s 1=.ptr H.length 0 5 0 0∧s 15=aw p.changesK (p.changes.map aW.cells)∧s 16=.int .i64 p.changes.length∧s 17=.int .i64 i∧AU p H D (s 3) X) ?_ ?_
  ·simp [q1,q15,q16,q17,q18,hN]
  clear q1 q15 q16 q17 q18 hN
  rintro s X ⟨q1,q15,q16,q17,hN⟩
  refine cut (fun s X=>s 1=.ptr H.length 0 5 0 0∧s 15=aw p.changesK (p.changes.map aW.cells)∧s 16=.int .i64 p.changes.length∧s 17=.int .i64 i∧AU p H (D++ew (dG c)) (s 3) X) ?_ ?_
  rotate_left
  ·clear q1 q15 q16 q17 hN
   rintro s X ⟨q1,q15,q16,q17,hN⟩
   rw [←hDs] at hN
   have hln2:(p.deps++((p.changes.take (i+1)).map fun c=>ew (dG c)).flatten).length≤100+404*(i+1):=by rw [hDs,List.length_append];omega
   have wi:=ay h (by omega)
   simp [q1,q15,q16,q17,wi,h]
   exact ⟨by simpa using hN,by simpa using hln2⟩
  rw [cq]
  obtain ⟨v,q3⟩:∃v,s 3=v:=⟨_,rfl⟩
  rw [q3] at hN
  obtain ⟨J,hg,hv,rfl⟩:=hN
  obtain ⟨vr,Jr,hgr,er⟩:=oG S.todm c hcg.on (base:=H.length) (H:=H++.rows 5 0 [p.cells]::(J++[.rows 139 0 [c.cells]])) (by simp)
  have hgrA:=hgr.abs (Z:=(H++.rows 5 0 [p.cells]::(J++[.rows 139 0 [c.cells]]))++[.rows 139 0 [c.cells],.rows 1 0 [[vr]]]) (by simp;omega)
  simp only [List.append_assoc,List.cons_append,List.nil_append] at er hgrA
  obtain ⟨b0,hb0⟩:∃b0,b0=(H++bQ.rows 5 0 [p.cells]::(J++[bQ.rows 139 0 [c.cells]])).length:=⟨_,rfl⟩
  rw [←hb0] at hgrA
  obtain ⟨R,hR⟩:∃R,R=jJ c b0:=⟨_,rfl⟩
  have hRi:R.map Prod.fst=dG c:=by rw [hR];exact Fg c b0
  have hRfn:∀x∈R,∃f cs,x.2=AV.fn f cs:=by rw [hR];exact z8
  rw [←hR] at hgrA
  clear hR hgr hb0
  have hRn:R.length=(dG c).length:=by rw [←hRi];simp
  have hlen:=fun HH=>hgrA.len (P:=Tryz.prog) (t:=221) (e:=224) (H:=HH) (by simp)
  rw [List.length_map] at hlen
  refine cut (fun s X=>s 1=.ptr H.length 0 5 0 0∧s 15=aw p.changesK (p.changes.map aW.cells)∧s 16=.int .i64 p.changes.length∧s 17=.int .i64 i∧s 3=v∧s 5=.ptr (H.length+(J.length+1)) 0 139 0 0∧X=H++.rows 5 0 [p.cells]::(J++[.rows 139 0 [c.cells]])) ?_ ?_
  ·simp [q1,q15,q16,q17,q3,h,←hc,ao,aE]
  clear q1 q15 q16 q17 q3
  rintro s X ⟨q1,q15,q16,q17,q3,q5,rfl⟩
  simp [q1,q15,q16,q17,q3,q5,er,hlen]
  refine az R.length (fun j s X=>s 1=.ptr H.length 0 5 0 0∧s 15=aw p.changesK (p.changes.map aW.cells)∧s 16=.int .i64 p.changes.length∧s 17=.int .i64 i∧s 22=vr∧s 23=.int .i64 R.length∧s 24=.int .i64 j∧AU p H (D++ew ((dG c).take j)) (s 3) X∧pL 34 X vr (R.map im)) ?_ ?_
  ·refine ⟨q1,q15,q16,q17,rfl,rfl,rfl,⟨_,by simpa [ew,q3] using hg.app (bQ.rows 139 0 [c.cells]::.rows 139 0 [c.cells]::.rows 1 0 [[vr]]::Jr),by simpa [ew,q3] using hv,by simp⟩,hgrA⟩
  clear q1 q15 q16 q17 q3 q5 hgrA er hg hv
  rintro j s X ⟨q1,q15,q16,q17,q22,q23,q24,hN,hgrA⟩ hj
  by_cases hjl:j<R.length
  rotate_left
  ·have h':j=R.length:=by omega
   subst h'
   rw [hRn,List.take_length] at hN
   simp [q1,q15,q16,q17,q22,q23,q24]
   exact hN
  obtain ⟨x,hx⟩:∃x,x=R[j]:=⟨_,rfl⟩
  have hxm:x∈R:=hx▸List.getElem_mem hjl
  obtain ⟨f,cs,hfn⟩:=hRfn x hxm
  have hxi:(dG c)[j]?=some x.1:=by rw [←hRi,List.getElem?_map,List.getElem?_eq_getElem hjl,←hx];rfl
  obtain ⟨a,ha,hl⟩:=hgrA.at (P:=Tryz.prog) (t:=221) (e:=224) (by simp) IA (i:=j) (by simpa using hjl) (by simp) .i64
  simp only [List.getElem_map,←hx] at hl
  have r4:∀y∈x.1.cells++[x.2],y.leaf=true:=by
   intro y hy
   rcases List.mem_append.1 hy with hy | hy
   ·exact List.all_eq_true.1 x.1.leafs y hy
   ·rw [List.mem_singleton.1 hy,hfn];rfl
  have eo:=(sX S.tobS x.1).eq
  unfold im at hl
  obtain ⟨v2,q3⟩:∃v2,s 3=v2:=⟨_,rfl⟩
  rw [q3] at hN
  obtain ⟨J2,hg,hv,rfl⟩:=hN
  have hsu:=zU hxi
  have hb1:H.length≤H.length+(J2.length+1):=by omega
  cases hz:bC x.1.d with
  | true =>
   rw [hz,if_pos rfl,List.append_nil] at hsu
   simp [q1,q15,q16,q17,q22,q23,q24,q3,hjl,ha,hl,ao,aE,r4,eo,hz,ay hjl (by omega)]
   rw [hsu]
   exact ⟨⟨_,hg.app _,hv,rfl⟩,hgrA.stays (fl.app (sz:=32) J2 _).at (by decide)⟩
  | false =>
   rw [hz,if_neg (by decide)] at hsu
   have hDl:(D++ew ((dG c).take j)).length≤2^20:=by
    have:=pu ((dG c).take j)
    simp only [List.length_append,List.length_take] at this ⊢
    omega
   obtain ⟨v3,J3,hap,hg3,hst⟩:=aT.appendP (P:=Tryz.prog) (base:=H.length) (Z:=H++[.rows 5 0 [p.cells]]) (J:=J2++[.rows 34 0 [x.1.cells++[x.2]]]) (n:=H.length+1) (ts:=#[30,30]) (e:=25) (xd:=.slice 25) (rows:=(D++ew ((dG c).take j)).map ar.cells) (x:=.lst [x.1.dv.cells] true) (ys:=[x.1.dv.cells]) (v:=v2)
    (by simp) (by simp) nN A6 (by simp [show aP.length=32 by decide]) (by decide) (by simp) (by simp) (hg.app _) (rsz _) rfl (by simp) (by simp at hDl ⊢;omega)
   have hv3:=lY (P:=Tryz.prog) (e:=25) (xd:=.slice 25) (by simp) (by simp) nN A6 (x:=.lst [x.1.dv.cells] true) (ys:=[x.1.dv.cells]) rfl (by simp) hap
   simp only [List.append_assoc,List.cons_append,List.nil_append] at hap
   have hdv:x.1.dv.cells=dig x.1.d:=rfl
   rw [hdv] at hap hg3
   have h32:x.1.d.length=32:=x.1.h
   have ht32:List.take 32 (x.1.cells++[x.2])=dig x.1.d:=by rw [List.take_append_of_le_length (by simp),x.1.dig]
   have hd0:aP.length=32:=by decide
   have hlf:∀y∈dig x.1.d,y.leaf=true:=by intro y hy;obtain ⟨n,_,rfl⟩:=List.mem_map.1 hy;rfl
   simp [q1,q15,q16,q17,q22,q23,q24,q3,hjl,ha,hl,ao,aE,r4,eo,hz,h32,ht32,hd0,hlf,aj,au,hap,ay hjl (by omega)]
   rw [hsu,←List.append_assoc]
   exact ⟨⟨J3,by simpa [hdv] using hg3,.inr ⟨by simp,hv3⟩,rfl⟩,hgrA.stays ((fl.app (sz:=32) J2 _).trans hst).at (by decide)⟩
 rintro s X ⟨hN,hnl⟩
 obtain ⟨v,q3⟩:∃v,s 3=v:=⟨_,rfl⟩
 rw [q3] at hN
 obtain ⟨J,hg,hv,rfl⟩:=hN
 have hperm:=S.permD (cW p)
 rcases hv with ⟨h0,rfl⟩ | ⟨h0,b',g',l',hv⟩
 ·have hl0:cW p=[]:=by simpa using h0
  have e1:=fun H' K=>S.sortD0 (base:=H.length) (H:=H') K
  have e2:=fun H' K=>S.compD0 (base:=H.length) (H:=H') K
  have hn0:co σ p=[]:=by
   rw [hl0] at hperm
   rw [co,hl0,hperm.eq_nil];rfl
  simp [q3,e1,e2,hl0,hn0]
  exact aq rfl
 ·obtain ⟨b,g,rfl,hb⟩:∃b g,v=.sl (H.length+1+b) g 32 0 (cW p).length∧J[b]?=some (.rows 32 g ((cW p).map ar.cells)):=by
   rcases hg with ⟨_,h⟩ | h | ⟨b,g,h,hb⟩
   ·rw [hv] at h;cases h
   ·rw [hv] at h;cases h
   ·exact ⟨b,g,by rw [h,List.length_map],hb⟩
  have hl0:cW p≠[]:=by simpa using h0
  have hbJ:b<J.length:=(List.getElem?_eq_some_iff.1 hb).1
  have hsl:(σ.d (cW p)).length=(cW p).length:=hperm.length_eq
  have e1:=fun K=>S.sortD (base:=H.length) (H:=H++.rows 5 0 [p.cells]::J) (b:=H.length+1+b) (g:=g) (l:=cW p) (by omega) (by omega) (by rw [jm];exact hb) K
  rw [pA] at e1
  obtain ⟨z,e2⟩:=S.compD (base:=H.length) (H:=H++.rows 5 0 [p.cells]::J.set b (.rows 32 g ((σ.d (cW p)).map ar.cells))) (b:=H.length+1+b) (g:=g) (l:=σ.d (cW p)) (by rw [hsl];omega) (by omega) (by rw [jm,List.getElem?_set_self hbJ])
  rw [pA,hsl] at e2
  simp [q3,e1,e2]
  rw [if_neg hl0]
  have hf:=uf (d:=2) (k:=H.length) (b:=H.length+1+b) (g:=g) (H:=H++.rows 5 0 [p.cells]::(J.set b (.rows 32 g ((σ.d (cW p)).map ar.cells))).set b (.rows 32 g ((bO (σ.d (cW p))).map ar.cells++z))) (m:=(bO (σ.d (cW p))).map ar.cells) (z:=z) (by rw [jm,List.getElem?_set_self (by simpa using hbJ)]) (by omega) (aM ar.closed _)
  rw [List.length_map] at hf
  simp only [List.set_set] at hf
  rw [hf]
  unfold co
  cases (bO (σ.d (cW p))).map ar.cells<;>rfl
end Go.Proofs.Ev
namespace Go.Proofs.Ev
open Go.Proofs
set_option maxRecDepth 100000 in
theorem Gy (base:Nat) (H:ag) (k:SK) (l:List ar) (hl:l.length≤2^20):pv base [aw k (l.map ar.cells)] H=if l=[] then some (.lst [] true,H) else some (.sl H.length 0 32 0 l.length,H++[.rows 32 0 (l.map ar.cells)]):=by
 by_cases h0:l=[]
 ·subst h0
  rw [if_pos rfl]
  cases k<;>rfl
 ·rw [if_neg h0]
  have hx:∃e,aw k (l.map ar.cells)=.lst (l.map ar.cells) e:=by
   cases l with
   | nil=>exact absurd rfl h0
   | cons a l=>cases k<;>exact ⟨_,rfl⟩
  obtain ⟨e,he⟩:=hx
  rw [he]
  have hp:pv base [.lst (l.map ar.cells) e] H=sb Tryz.prog D6 122 base [.lst (l.map ar.cells) e] H:=by
   cases l with
   | nil=>exact absurd rfl h0
   | cons a l=>rfl
  rw [hp]
  refine tQ (am Tryz.func122 rfl rfl (by simp) (by kernel_rfl) ?_)
  unfold Tryz.f122
  have heq:bU Tryz.prog D6 .eql 30 (.lst (l.map ar.cells) e) .nils=some (.bool false):=by
   cases l with
   | nil=>exact absurd rfl h0
   | cons a l=>simp [bU,pI]
  have ha:bA Tryz.prog base H #[30,30] (.lst [] true) (.lst (l.map ar.cells) e)=some (.sl H.length 0 32 0 l.length,H++[.rows 32 0 (l.map ar.cells)]):=by
   have h1:((#[30,30]:Array TypeId)[0]?).bind Tryz.prog.underlying=some (.slice 25):=by simp
   have h2:((#[30,30]:Array TypeId)[1]?).bind Tryz.prog.underlying=some (.slice 25):=by simp
   have hz:(aQ Tryz.prog 25).map (fun z=>z.cells.length)=some 32:=by simp [show aP.length=32 by decide]
   have hall:(l.map ar.cells).all (fun r=>decide (r.length=32))=true:=by simp
   unfold bA
   simp only [h1,h2,nN,A6,cQ,cF]
   rw [if_pos ⟨hall,by decide,hz⟩,if_neg (by simp [h0]),if_pos ⟨trivial,by simp;omega,by simp⟩]
   simp
  simp [aG,heq,aj,au,aQ,ha]
end Go.Proofs.Ev
namespace Go.Proofs.Ev
open Go.Proofs
variable {P:Program} {C:bG}
theorem dx {f:FuncId} {p:Nat→List AV→ag→Option (AV×ag)} (hp:C.prim f=some p) (h1:C.pure f=false) (h2:C.frz f=false) {base:Nat} {caps args:List AV} {H:ag} {v:AV} {H':ag} (h:p base (args++caps) H=some (v,H')) (K:AV→ag→Prop):aD P C base (.fn f caps) args H K=K v H':=by
 refine aD.eq ⟨2,v,H',?_,rfl,rfl⟩ K
 simp only [dp,h1,h2,cD,hp,h,Bool.false_eq_true,if_false]
theorem Bg (hp:C.prim 122=some pv) (h1:C.pure 122=false) (h2:C.frz 122=false) {base:Nat} {H:ag} {k:SK} {l:List ar} (hl:l.length≤2^20) (K:AV→ag→Prop) :
 aD P C base (.fn 122 []) [aw k (l.map ar.cells)] H K=if l=[] then K (.lst [] true) H else K (.sl H.length 0 32 0 l.length) (H++[.rows 32 0 (l.map ar.cells)]):=by
 have e:=Gy base H k l hl
 by_cases h0:l=[]
 ·rw [if_pos h0] at e ⊢
  exact dx hp h1 h2 e K
 ·rw [if_neg h0] at e ⊢
  exact dx hp h1 h2 e K
theorem GC (hp:C.prim 109=some zW) (h1:C.pure 109=false) (h2:C.frz 109=false) {base:Nat} {H:ag} {a b:AV} {x y:List Nat} (hl:x.length=y.length) (hx:∀n∈x,n<256) (hy:∀n∈y,n<256)
 (ha:cF H a.denil=some ((dig x).map fun c=>[c])) (hb:cF H b.denil=some ((dig y).map fun c=>[c])) (K:AV→ag→Prop):aD P C base (.fn 109 []) [a,b] H K=K (.int .i64 (bZ x y)) H:=by
 have key:∀{x:List Nat},(∀n∈x,n<256)→((dig x).map fun c=>[c]).mapM rT=some x:=by
  intro x
  induction x with
  | nil=>intro _;rfl
  | cons n x ih =>
   intro h
   have i:=ih fun m hm=>h m (by simp [hm])
   have hn:=h n (by simp)
   have hb:rT [AV.int .u8 (n:Int)]=some n:=by
    show (if (0:Int)≤(n:Int)∧(n:Int)<256 then some (n:Int).toNat else none)=some n
    rw [if_pos ⟨by omega,by omega⟩];simp
   show List.mapM rT ([AV.int .u8 (n:Int)]::(dig x).map fun c=>[c])=_
   rw [List.mapM_cons,hb,i];rfl
 have e:zW base [a,b] H=some (.int .i64 (bZ x y),H):=by
  simp only [zW,tt,ha,hb,Option.bind_some,key hx,key hy,hl,if_true]
 exact dx hp h1 h2 e K
theorem EB (hp:C.prim 155=some uy) (h1:C.pure 155=false) (h2:C.frz 155=false) (n:Int) (l1 : -(2^62)≤n) (l2:n≤2^62) (base:Nat) (H:ag) (K:AV→ag→Prop):aD P C base (.fn 155 []) [.int .i64 n] H K=K (.str (m6 n)) H:=by
 have e:uy base [.int .i64 n] H=some (.str (m6 n),H):=by
  show (if -9223372036854775808≤n∧n≤9223372036854775807 then some (AV.str (m6 n),H) else none)=_
  rw [if_pos ⟨by omega,by omega⟩]
 exact dx hp h1 h2 e K
theorem Dm:∀(s:List UInt8) (c:UInt8),Lib.indexByte s c<0↔¬c∈s
 | [],c=>by simp [Lib.indexByte]
 | b::s,c=>by
  have ih:=Dm s c
  have hg:=Lib.indexByte_ge s c
  unfold Lib.indexByte
  by_cases hb:b=c
  ·subst hb;simp
  ·have hb2:(b==c)=false:=by simpa using hb
   have hm:c∈b::s↔c∈s:=by simp [Ne.symm hb]
   rw [hb2,hm,←ih]
   simp only [Bool.false_eq_true,if_false]
   by_cases h1:Lib.indexByte s c = -1
   ·rw [h1];simp
   ·have h2:(Lib.indexByte s c==-1)=false:=by simpa using h1
    rw [h2]
    simp only [Bool.false_eq_true,if_false]
    omega
theorem G2 (hp:C.prim 324=some E9) (h1:C.pure 324=false) (h2:C.frz 324=false) (s:List UInt8) (c:UInt8):∃n:Int,(n<0↔¬c∈s)∧∀base H (K:AV→ag→Prop),aD P C base (.fn 324 []) [.str s,.int .u8 c.toNat] H K=K (.int .i64 n) H:=by
 refine ⟨Lib.indexByte s c,?_,fun base H K=>?_⟩
 ·exact Dm s c
 ·have e:E9 base [.str s,.int .u8 c.toNat] H=some (.int .i64 (Lib.indexByte s c),H):=by
   show some (AV.int .i64 (Lib.indexByte s ((c.toNat:Int)).toNat.toUInt8),H)=_
   simp
  exact dx hp h1 h2 e K
end Go.Proofs.Ev
namespace Go.Proofs.Ev
open Go.Proofs
variable {N:gA} {φ:fE} {H:ag} {w w':World}
theorem BZ {P:Program} {e:TypeId} {s:Nat} (hc:P.cellsOf e=s) (hs:s≠0) (count n:Nat) (hn:n≤count):liesAt P P.depth e count 0 e n=true:=by
 have hd:P.depth=(2*(P.types.size+Made.depth)+1)+1:=rfl
 rw [hd]
 simp only [liesAt,Bool.or_eq_true]
 left
 rw [hd]
 simp [rowAt,hc,hn,hs,sameLayout]
def jr (N:gA):Prop:=(∀T,N.tag 1 T→T=382)∧∀T,N.tag 2 T→T=5
set_option maxRecDepth 100000 in
set_option maxHeartbeats 1000000 in
theorem A9 {k:Nat} {cs:Array Value} {fr:Nat×Nat} (hk:w.heap[k]?=some (.cells cs 382 fr)) (h2:2≤cs.size) (h0:w.cell? ⟨k,0,none⟩=some (.pointer none)) (hf:w.frozen? ⟨k,0,none⟩=false)
 (hs:(Instr.storeAt 380 (.pointer (some ⟨k,0,none⟩)) (.pointer (some ⟨k,0,none⟩))).run Tryz.prog w=.ok () w') :
 CallsIn (Fw none) 0 Tryz.prog 392 #[.pointer (some ⟨k,0,none⟩)] w fun e w2=>e=.returned (.tuple #[])∧w2=w':=by
 refine callsIn_of_wp Tryz.func392 rfl trivial ?_ rfl
 have hn:Tryz.f392.ntmps=20:=rfl
 simp only [hn,List.size_toArray,List.length_cons,List.length_nil,Nat.reduceAdd,Nat.reduceSub,Array.replicate_succ,Array.replicate_zero,List.push_toArray,List.append_toArray,List.nil_append,List.cons_append]
 gi_wp2
 have hsh:w.shape? k=some (382,cs.size):=by simp [World.shape?,hk]
 have hcs:Tryz.prog.cellsOf 382=2:=by kernel_rfl
 rw [Lib.run_to_unsafe (src:=380) (t:=382) w ⟨k,0,none⟩ Tryz.underlying380 (by kernel_rfl) (bw Tryz.typeInfo382) (by decide) hsh (by show 0<cs.size;omega)]
 simp only [Result.andThen]
 gi_wp2
 rw [run_callFunc_extern Tryz.func406 (by kernel_rfl) (by kernel_rfl) (by kernel_rfl) (e:=Extern.AbiNoEscape.same) (by kernel_rfl),Lib.run_noEscape]
 simp only [Result.andThen]
 gi_wp2
 rw [Lib.run_from_unsafe (dst:=380) (u:=382) w ⟨k,0,none⟩ (by kernel_rfl) Tryz.underlying380 (bw Tryz.typeInfo382) hsh (BZ hcs (by decide) _ _ (by rw [hcs];omega))]
 simp only [Result.andThen]
 gi_wp2
 have hst:(Instr.storeAt 380 (.pointer (some ⟨k,0,none⟩)) (.pointer (some ⟨k,0,none⟩))).run Tryz.prog w=.ok () (w.setCell ⟨k,0,none⟩ (.pointer (some ⟨k,0,none⟩))):=by
  simp [Instr.storeAt,Instr.sureAddr,storeVar,go_sem,stored,hf,h0,Tryz.sizeOf380,Tryz.isAgg380]
 rw [hst] at hs
 cases hs
 go_end0
 exact ⟨rfl,rfl⟩
set_option maxRecDepth 100000 in
set_option maxHeartbeats 1000000 in
theorem Ba {k:Nat} (h0:w.cell? ⟨k,0,none⟩=some (.pointer (some ⟨k,0,none⟩))) :
 CallsIn (Fw none) 0 Tryz.prog 392 #[.pointer (some ⟨k,0,none⟩)] w fun e w2=>e=.returned (.tuple #[])∧w2=w:=by
 refine callsIn_of_wp Tryz.func392 rfl trivial ?_ rfl
 have hn:Tryz.f392.ntmps=20:=rfl
 simp only [hn,List.size_toArray,List.length_cons,List.length_nil,Nat.reduceAdd,Nat.reduceSub,Array.replicate_succ,Array.replicate_zero,List.push_toArray,List.append_toArray,List.nil_append,List.cons_append]
 gi_wp2
 rw [Lib.run_neq_ptr_same w ⟨k,0,none⟩ Tryz.underlying380 (bw Tryz.typeInfo382)]
 simp only [Result.andThen]
 gi_wp2
 go_end0
 exact ⟨rfl,rfl⟩
set_option maxRecDepth 100000 in
set_option maxHeartbeats 1000000 in
theorem DZ {k g cap cells:Nat} {l:List UInt8} (h1:w.cell? ⟨k,1,none⟩=some (.slice (some ⟨g,0,none⟩) l.length cap)) (hg:w.shape? g=some (5,cells)) (h0:l≠[]) (hn:l.length≤cells) (hc:l.length≤cap) (hm:l.length≤2^60)
 (hcell:∀j x,l[j]?=some x→w.cell? ((⟨g,0,none⟩:Addr).add j)=some (.int .u8 x.toNat)) :
 CallsIn (Fw none) 0 Tryz.prog 338 #[.pointer (some ⟨k,0,none⟩)] w fun e w2=>e=.returned (.string ⟨l.toArray⟩)∧w2=w.drew.freeze ⟨g,0,none⟩ l.length:=by
 have hl0:l.length≠0:=by simpa using h0
 have c1:w.drew.cell? ⟨k,1,none⟩=some (.slice (some ⟨g,0,none⟩) l.length cap):=h1
 have hSD:(Builtin.unsafeSliceData_ #[207] 414 #[.slice (some ⟨g,0,none⟩) l.length cap]).run Tryz.prog w.drew=.ok (.pointer (some ⟨g,0,none⟩)) w.drew :=
  Lib.run_unsafeSliceData_row _ _ _ _ _ _ (by omega)
 have hUS:(Builtin.unsafeString_ #[414,3] 9 #[.pointer (some ⟨g,0,none⟩),.int .i64 l.length]).run Tryz.prog w.drew=.ok (.string ⟨l.toArray⟩) (w.drew.freeze ⟨g,0,none⟩ l.length) :=
  Lib.run_unsafeString_row w.drew 414 3 9 5 Tryz.underlying414 (by kernel_rfl) g cells hg l h0 hn (by omega) hcell
 have mixed:Tryz.prog.follows .mixedOrders=true:=by kernel_rfl
 refine callsIn_of_wp Tryz.func338 rfl trivial ?_ rfl
 have hn:Tryz.f338.ntmps=14:=rfl
 simp only [hn,List.size_toArray,List.length_cons,List.length_nil,Nat.reduceAdd,Nat.reduceSub,Array.replicate_succ,Array.replicate_zero,List.push_toArray,List.append_toArray,List.nil_append,List.cons_append]
 gi_wp2
 gi_region
 gi_wp2
 go_ret
 exact ⟨rfl,rfl⟩
theorem GV {a:Addr} {n:Nat}:(w.freeze a n).heap.size=w.heap.size:=by unfold World.freeze;split<;>simp
theorem Es {a:Addr} {n k:Nat} (h:k≠a.block):(w.freeze a n).heap[k]?=w.heap[k]?:=by
 unfold World.freeze
 split
 ·rfl
 ·simp only [Array.getElem?_modify];rw [if_neg (Ne.symm h)]
theorem Jy {a:Addr} {n:Nat}:fi w (w.freeze a n):=by
 unfold World.freeze
 split<;>exact .refl
theorem HR.free (h:HR N φ H w) {b:Nat} {L:DO} (hL:φ b=some L) (hc:∀r:Loop,w.heap[L.cb]?≠some (.loop r)) (hs:w'.heap.size=w.heap.size) (ho:∀k,k≠L.cb→w'.heap[k]?=w.heap[k]?) (he:fi w w') :
 HR N (dU φ b) (H.set b .dead) w'∧cj φ H.length w (dU φ b) (H.set b .dead).length w':=by
 have hx:cj φ H.length w (dU φ b) H.length w' :=
  {le:=Nat.le_refl _
   env:=he
   size:=by omega
   loc:=fun k _ L' hL'=>by
    simp only [dU] at hL'
    split at hL'
    ·cases hL'
    ·exact ⟨L',hL',Nat.le_refl _,fun _=>rfl⟩
   same:=fun cb o hc' hn=>(ho cb fun e=>hn.1 b L hL e.symm).trans hc'
   nolive:=fun cb _ hn=>by
    refine ⟨fun k L' hL'=>?_,hn.2⟩
    simp only [dU] at hL'
    split at hL'
    ·cases hL'
    ·exact hn.1 k L' hL'
   res:=rfl
   keep:=fun cb o hr hc'=>(ho cb fun e=>h.resn b L hL (by rw [←e];exact hr)).trans hc'
   loops:=fun cb r hc'=>⟨r,(ho cb fun e=>hc r (by rw [←e];exact hc')).trans hc'⟩ }
 have hno:∀y:bQ,y≠.dead→(H.set b .dead)[b]?≠some y:=by
  intro y hy e
  rcases Nat.lt_or_ge b H.length with h1 | h1
  ·simp [h1] at e;exact hy e.symm
  ·rw [List.getElem?_eq_none (by simpa using h1)] at e;cases e
 refine ⟨h.change (by simpa using hx) b ?_ ?_ ?_ ?_ ?_ ?_ ?_ ?_ ?_,by simpa using hx⟩
 ·intro k hk;exact List.getElem?_set_ne (Ne.symm hk)
 ·intro k hk;simp [dU,hk]
 ·intro k L' hk hL';exact ho _ fun e=>hk (h.inj k b L' L hL' hL e)
 ·intro _;simp [dU]
 ·intro L' hL';simp [dU] at hL'
 ·intro _ _ _ hb;exact absurd hb (hno _ (by simp))
 ·intro _ hb;exact absurd hb (hno _ (by simp))
 ·intro _ _ _ _ _ _ hb;exact absurd hb (hno _ (by simp))
 ·intro _ _ _ hb;exact absurd hb (hno _ (by simp))
def tp:List AV→Option UInt8
 | [.int .u8 n]=>if 0≤n∧n<256 then some (UInt8.ofNat n.toNat) else none
 | _=>none
theorem tq:∀{rows:List (List AV)} {x:List UInt8},rows.mapM tp=some x→rows=x.map bR
 | [],x,h=>by simp at h;subst h;simp
 | r::rows,x,h=>by
  rw [List.mapM_cons] at h
  cases hr:tp r with
  | none=>rw [hr] at h;simp at h
  | some n =>
   rw [hr] at h
   cases hm:rows.mapM tp with
   | none=>rw [hm] at h;simp at h
   | some y =>
    rw [hm] at h
    simp at h;subst h
    rw [List.map_cons,←tq hm]
    congr 1
    unfold tp at hr
    split at hr
    ·rename_i k
     split at hr
     ·rename_i hk
      cases hr
      unfold bR
      congr 2
      rw [UInt8.toNat_ofNat',Nat.mod_eq_of_lt (by omega)]
      omega
     ·cases hr
    ·cases hr
theorem vJ:∀l:List UInt8,(l.map bR).mapM tp=some l
 | []=>rfl
 | x::l=>by
  have hb:tp (bR x)=some x:=by
   have:=x.toNat_lt
   show (if (0:Int)≤(x.toNat:Int)∧(x.toNat:Int)<256 then some (UInt8.ofNat (x.toNat:Int).toNat) else none)=some x
   rw [if_pos ⟨by omega,by omega⟩];simp
  rw [List.map_cons,List.mapM_cons,hb,vJ l];rfl
def ux (base:Nat) (args:List AV) (H:ag):Option (AV×ag) :=
 match args with
 | [.ptr b 1 2 0 0] =>
  match H[b]? with
  | some (.rows 2 1 [[a,v]])=>if base≤b then match a with
   | .nilp=>some (.tup [],H.set b (.rows 2 1 [[.ptr b 1 2 0 0,v]]))
   | .ptr b' 1 2 0 0=>if b'=b then some (.tup [],H.set b (.rows 2 1 [[.ptr b 1 2 0 0,v]])) else none
   | _=>none
   else none
  | _=>none
 | _=>none
def Ce (base:Nat) (args:List AV) (H:ag):Option (AV×ag) :=
 match args with
 | [.ptr b 1 2 0 0] =>
  match H[b]? with
  | some (.rows 2 1 [[_,.sl b' g' 1 0 len]]) =>
   match H[b']? with
   | some (.rows 1 g'' rs) =>
    match rs.mapM tp with
    | some l=>if base≤b'∧g' % 4=2∧g''=g'∧l.length=len∧len≠0∧len≤2^60 then some (.str l,H.set b' .dead) else none
    | none=>none
   | _=>none
  | _=>none
 | _=>none
theorem Jo (hT:jr N):fZ Tryz.prog N 392 ux:=by
 refine ⟨⟨_,Tryz.func392,rfl⟩,fun base args H v H' h φ w Vs hb hH ht=>?_⟩
 unfold ux at h
 split at h
 ·rename_i b
  split at h
  ·rename_i a u hblk
   split at h
   ·rename_i hbb
    obtain ⟨X,rfl,h1⟩:=qJ ht
    obtain ⟨L,cs,T,fr,e1,e2,e3,e4,e5,e6⟩:=hH.rows _ _ _ _ hblk
    have hTT:=hT.1 T (e5.2.1.1 rfl)
    subst hTT
    have hs2:2≤cs.size:=by have:=e6.1;simpa using this
    have hX:=h1
    cases h1 with
    | ptr hbn hh =>
     rename_i ad
     have ha:=(hh L e1).2 e2.symm
     simp only [Nat.zero_mul,Nat.zero_add] at ha
     subst ha
     obtain ⟨_,V,c1,c2⟩:=(e6.2 0 _ rfl).2 0 a rfl
     simp only [Nat.zero_mul,Nat.zero_add] at c1
     have hc0:w.cell? ⟨L.cb,0,none⟩=some V:=by simp only [World.cell?,e3];exact c1
     split at h
     ·cases h
      cases c2
      have hst:ao Tryz.prog base H 380 (.ptr b 1 2 0 0) (.ptr b 1 2 0 0)=some (H.set b (.rows 2 1 [[.ptr b 1 2 0 0,u]])):=by
       have hsz:bF Tryz.prog 380=some 1:=du (bw Tryz.typeInfo380) rfl
       simp [ao,hsz,hblk,hbb,AV.cells,AV.leaf]
      obtain ⟨w',s1,s2,s3,s4⟩:=qF (P:=Tryz.prog) hH hX hX hst
      refine (A9 e3 hs2 hc0 (by simp only [World.frozen?,e3];rw [Bool.eq_false_iff];intro hh;exact e5.1 0 (by omega) (by simpa using hh)) s1).mono ?_
      rintro e w2 ⟨rfl,rfl⟩
      exact ⟨_,φ,rfl,.tup rfl (fun j v V hj=>by simp at hj),s2,s3,s4⟩
     ·rename_i b' _
      split at h
      ·rename_i hbe
       subst hbe
       cases h
       have hset:H.set b' (.rows 2 1 [[.ptr b' 1 2 0 0,u]])=H:=by
        apply List.ext_getElem?
        intro k
        by_cases hk:b'=k
        ·subst hk
         rw [List.getElem?_set_self (List.getElem?_eq_some_iff.1 hblk).1,hblk]
        ·rw [List.getElem?_set_ne hk]
       rw [hset]
       cases c2 with
       | ptr _ hh2 =>
        rename_i ad2
        have ha2:=(hh2 L e1).2 e2.symm
        simp only [Nat.zero_mul,Nat.zero_add] at ha2
        subst ha2
        refine (Ba hc0).mono ?_
        rintro e w2 ⟨rfl,rfl⟩
        exact ⟨_,φ,rfl,.tup rfl (fun j v V hj=>by simp at hj),hH,cj.refl,fun _ _=>rfl⟩
      ·cases h
     ·cases h
   ·cases h
  ·cases h
 ·cases h
theorem MK (hT:jr N):fZ Tryz.prog N 338 Ce:=by
 refine ⟨⟨_,Tryz.func338,rfl⟩,fun base args H v H' h φ w Vs hb hH ht=>?_⟩
 unfold Ce at h
 split at h
 ·rename_i b
  split at h
  ·rename_i a b' g' len hblk
   split at h
   ·rename_i g'' rs hblk'
    split at h
    ·rename_i l hl
     split at h
     ·rename_i hc
      obtain ⟨hbb,hg4,rfl,rfl,hl0,hl60⟩:=hc
      cases h
      obtain ⟨X,rfl,h1⟩:=qJ ht
      obtain ⟨L,cs,T,fr,e1,e2,e3,e4,e5,e6⟩:=hH.rows _ _ _ _ hblk
      obtain ⟨L',cs',T',fr',f1,f2,f3,f4,f5,f6⟩:=hH.rows _ _ _ _ hblk'
      have hTT:=hT.2 T' (f5.2.1.2 hg4)
      subst hTT
      have hrs:=tq hl
      subst hrs
      have hfit:l.length≤cs'.size:=by have:=f6.1;simpa using this
      cases h1 with
      | ptr hbn hh =>
       rename_i ad
       have ha:=(hh L e1).2 e2.symm
       simp only [Nat.zero_mul,Nat.zero_add] at ha
       subst ha
       obtain ⟨_,V,c1,c2⟩:=(e6.2 0 _ rfl).2 1 _ rfl
       simp only [Nat.zero_mul,Nat.zero_add] at c1
       have hc1:w.cell? ⟨L.cb,1,none⟩=some V:=by simp only [World.cell?,e3];exact c1
       cases c2 with
       | sl hb2 hcap hh2 =>
        rename_i cap a2
        obtain ⟨ha2,_⟩:=(hh2 L' f1).2 f2.symm
        simp only [Nat.zero_mul] at ha2
        subst ha2
        have hcell:∀j x,l[j]?=some x→w.cell? ((⟨L'.cb,0,none⟩:Addr).add j)=some (.int .u8 x.toNat):=by
         intro j x hx
         obtain ⟨_,V,d1,d2⟩:=(f6.2 j (bR x) (by simp [hx])).2 0 _ rfl
         cases d2
         have hadd:((⟨L'.cb,0,none⟩:Addr).add j)=⟨L'.cb,j,none⟩:=by by_cases hj:j=0<;>simp [Addr.add,hj]
         rw [hadd]
         simp only [World.cell?,f3]
         simpa using d1
        refine (DZ (cells:=cs'.size) hc1 (by simp [World.shape?,f3]) (by intro e;subst e;exact hl0 rfl) hfit hcap hl60 hcell).mono ?_
        rintro e w2 ⟨rfl,rfl⟩
        obtain ⟨g1,g2⟩:=hH.free (w':=w.drew.freeze ⟨L'.cb,0,none⟩ l.length) f1 (fun r hr=>by rw [f3] at hr;cases hr) (by rw [GV];rfl) (fun k hk=>by rw [Es hk];rfl) (Jy (w:=w.drew))
        refine ⟨_,_,rfl,.str _,g1,g2,fun k hk=>?_⟩
        rw [List.getElem?_set_ne (by omega)]
     ·cases h
    ·cases h
   ·cases h
  ·cases h
 ·cases h
theorem Ef {C:bG} (hp:C.prim 392=some ux) (h1:C.pure 392=false) (h2:C.frz 392=false) {base:Nat} {H:ag} {b:Nat} {a v:AV} (hb:base≤b) (hg:H[b]?=some (.rows 2 1 [[a,v]])) (ha:a=.nilp∨a=.ptr b 1 2 0 0) (K:AV→ag→Prop) :
 aD Tryz.prog C base (.fn 392 []) [.ptr b 1 2 0 0] H K=K (.tup []) (H.set b (.rows 2 1 [[.ptr b 1 2 0 0,v]])):=by
 have e:ux base [.ptr b 1 2 0 0] H=some (.tup [],H.set b (.rows 2 1 [[.ptr b 1 2 0 0,v]])):=by
  unfold ux
  rcases ha with rfl | rfl<;>simp only [hg,if_pos hb,if_true]
 exact dx hp h1 h2 e K
theorem Ix {C:bG} (hp:C.prim 338=some Ce) (h1:C.pure 338=false) (h2:C.frz 338=false) {base:Nat} {H:ag} {b:Nat} {a v:AV} {l:List UInt8} (hb:base≤b) (hg:H[b]?=some (.rows 2 1 [[a,v]])) (hn:l≠[]) (hl:l.length≤2^60)
 (hv:∃b' g',v=.sl b' g' 1 0 l.length∧base≤b'∧g' % 4=2∧H[b']?=some (.rows 1 g' (l.map bR))):∃H',∀K:AV→ag→Prop,
 aD Tryz.prog C base (.fn 338 []) [.ptr b 1 2 0 0] H K=K (.str l) H':=by
 obtain ⟨b',g',rfl,hb',hg4,hg2⟩:=hv
 have e:Ce base [.ptr b 1 2 0 0] H=some (.str l,H.set b' .dead):=by
  unfold Ce
  simp only [hg,hg2,vJ]
  rw [if_pos ⟨hb',hg4,trivial,trivial,by simpa using hn,hl⟩]
 exact ⟨_,fun K=>dx hp h1 h2 e K⟩
end Go.Proofs.Ev
namespace Go.Proofs.Ev
open Go.Proofs Go.RowKit Go.Sort
variable {N:gA} {φ:fE} {H:ag} {w w':World} {P:Program}
def nQ:AV→Value
 | .int k n=>.int k n
 | _=>Go.undef
structure oP (α:Type) where
 cells:α→List AV
 k:Nat
 pos:0<k
 len:∀x,(cells x).length=k
 ints:∀x,∀v∈cells x,∃kd n,v=AV.int kd n
variable {α:Type} [Inhabited α] (E:oP α)
def oP.enc (x:α):List Value:=(E.cells x).map nQ
theorem oP.enc_len (x:α):(E.enc x).length=E.k:=by simp [oP.enc,E.len]
theorem oP.one (x:α):∀v∈E.enc x,v.oneCell'=true:=by
 intro v hv
 obtain ⟨a,ha,rfl⟩:=List.mem_map.1 hv
 obtain ⟨kd,n,rfl⟩:=E.ints x a ha
 rfl
theorem oP.get {x:α} {j:Nat} {v:AV} (h:(E.cells x)[j]?=some v):v.leaf=true∧(E.enc x)[j]?=some (nQ v)∧(∀φ n w,RV φ n w v (nQ v))∧∀φ n w V,RV φ n w v V→V=nQ v:=by
 obtain ⟨kd,n,rfl⟩:=E.ints x v (List.mem_of_getElem? h)
 exact ⟨rfl,by simp [oP.enc,h],fun _ _ _=>.int _ _,fun _ _ _ V hV=>by cases hV;rfl⟩
theorem Jq {i j s:Nat} (hj:j<s):(i*s+j) / s=i:=by
 rw [Nat.mul_comm,Nat.mul_add_div (by omega),Nat.div_eq_of_lt hj,Nat.add_zero]
theorem oP.holds (hH:HR N φ H w) {b g:Nat} {l:List α} (hb:H[b]?=some (.rows E.k g (l.map E.cells))) {L:DO} (hL:φ b=some L):HoldsK E.enc E.k w L.cb 0 l.toArray:=by
 obtain ⟨L',cs,T,fr,h1,h2,h3,h4,h5,h6⟩:=hH.rows _ _ _ _ hb
 rw [hL] at h1;cases h1
 intro t ht
 rw [size_flatK] at ht
 simp only [List.size_toArray] at ht
 have hi:t / E.k<l.length:=Nat.div_lt_of_lt_mul (by rw [Nat.mul_comm];exact ht)
 have hj:t % E.k<E.k:=Nat.mod_lt _ E.pos
 have hrow:(l.map E.cells)[t / E.k]?=some (E.cells l[t / E.k]):=by simp [hi]
 obtain ⟨v,hv⟩:∃v,(E.cells l[t / E.k])[t % E.k]?=some v:=⟨(E.cells l[t / E.k])[t % E.k]'(by rw [E.len];exact hj),List.getElem?_eq_getElem _⟩
 obtain ⟨_,V,c1,c2⟩:=(h6.2 _ _ hrow).2 _ _ hv
 obtain ⟨_,e2,_,e4⟩:=E.get hv
 have hV:=e4 _ _ _ _ c2
 subst hV
 have hdm:t / E.k*E.k+t % E.k=t:=by rw [Nat.mul_comm];exact Nat.div_add_mod t E.k
 rw [hdm] at c1
 have hget:(flatK E.enc E.k l.toArray)[t]! = nQ v:=by
  rw [get_flatK _ _ _ _ (by simpa using ht)]
  have h1:l.toArray[t / E.k]! = l[t / E.k]:=by simp [hi]
  rw [h1,List.getElem!_eq_getElem?_getD,e2]
  rfl
 have hlt:=bh (show cs.toList[t]?=some (nQ v) by simpa using c1)
 refine ⟨?_,?_⟩
 ·rw [Nat.zero_add,hget]
  simp only [World.cell?,h3]
  exact c1
 ·rw [Nat.zero_add]
  have:=h5.1 t (by simpa using hlt)
  simp only [World.frozen?,h3]
  rw [Bool.eq_false_iff]
  intro hh
  exact this (by simpa using hh)
theorem oP.lay (hH:HR N φ H w) {b g:Nat} {l l':List α} (hb:H[b]?=some (.rows E.k g (l.map E.cells))) (hl:l'.length=l.length) {L:DO} (hL:φ b=some L) (n:Nat) (os:Array Obj) :
 HR N φ (H.set b (.rows E.k g (l'.map E.cells))) (sortWorldK E.enc E.k w L.cb 0 n l'.toArray os)∧cj φ H.length w φ H.length (sortWorldK E.enc E.k w L.cb 0 n l'.toArray os):=by
 obtain ⟨L',cs,T,fr,h1,h2,h3,h4,h5,h6⟩:=hH.rows _ _ _ _ hb
 rw [hL] at h1;cases h1
 let cs':=putCells id 0 (flatK E.enc E.k l'.toArray) cs
 have hcs:cs'.size=cs.size:=by simp [cs',putCells]
 have hput:=hH.put hL (.cells cs' T fr) (.rows E.k g (l'.map E.cells)) (fun r hr=>by rw [h3] at hr;cases hr) (by simp) (by
  intro esz g' rs e
  cases e
  refine ⟨cs',T,fr,h2,rfl,by rw [hcs];exact h4,by rw [hcs];exact h5,?_⟩
  refine ⟨by rw [hcs];have:=h6.1;simp only [List.length_map] at this ⊢;rw [hl];exact this,fun i row hi=>?_⟩
  obtain ⟨x,hx,rfl⟩:∃x,l'[i]?=some x∧E.cells x=row:=by simpa using hi
  refine ⟨E.len x,fun j v hj=>?_⟩
  obtain ⟨e1,e2,e3,_⟩:=E.get hj
  refine ⟨e1,_,?_,e3 _ _ _⟩
  have hjk:j<E.k:=by have:=bh hj;rw [E.len] at this;exact this
  have hil:=bh hx
  have hlt:i*E.k+j<l'.length*E.k:=pz hil hjk
  have hlt2:i*E.k+j<cs.size:=by have:=h6.1;simp only [List.length_map] at this;rw [hl] at hlt;omega
  have hget:(flatK E.enc E.k l'.toArray)[i*E.k+j]! = nQ v:=by
   rw [get_flatK _ _ _ _ (by simpa using hlt),Jq hjk,Dr hjk]
   have h1:l'.toArray[i]! = x:=by simp [hx]
   rw [h1,List.getElem!_eq_getElem?_getD,e2]
   rfl
  show (putCells id 0 (flatK E.enc E.k l'.toArray) cs)[i*E.k+j]?=_
  unfold putCells
  rw [Array.getElem?_mapIdx,Array.getElem?_eq_getElem hlt2]
  simp only [Option.map_some,size_flatK,List.size_toArray,Nat.zero_le,Nat.zero_add,true_and,hlt,if_true,Nat.sub_zero,id]
  rw [hget]) (by simp) (by simp)
 have hx:=cj.put hH hL (.cells cs' T fr) (fun r hr=>by rw [h3] at hr;cases hr)
 have hlt:=(hH.base b L hL).2
 have hk:∀(cb:Nat) (o:Obj),(bE w L.cb (.cells cs' T fr)).heap[cb]?=some o→(sortWorldK E.enc E.k w L.cb 0 n l'.toArray os).heap[cb]?=some o:=by
  intro cb o ho
  have hcb:cb<w.heap.size:=by have:=(Array.getElem?_eq_some_iff.1 ho).1;simpa using this
  show ((putRow id (Sort.ahead w n) L.cb 0 (flatK E.enc E.k l'.toArray)).heap++os)[cb]?=some o
  rw [Array.getElem?_append_left (by simpa [Sort.ahead] using hcb)]
  simp only [putRow,mapBlock,Sort.ahead,Array.getElem?_modify]
  by_cases e:L.cb=cb
  ·subst e
   rw [cM hlt] at ho
   rw [if_pos rfl,h3]
   simpa [onCells] using ho
  ·rw [if_neg e]
   rw [bq e] at ho
   exact ho
 have hs:(bE w L.cb (.cells cs' T fr)).heap.size≤(sortWorldK E.enc E.k w L.cb 0 n l'.toArray os).heap.size:=by
  simp [sortWorldK,grow,putRowK,Sort.ahead]
 exact ⟨hput.keeps hs hk .refl,hx.trans (cj.keeps hs hk .refl)⟩
end Go.Proofs.Ev
namespace Go.Proofs.Ev
open Go.Proofs Go.Sort
variable {w w':World}
theorem p7 {X:World} (blk off cap:Nat) (d:List Nat) (hc:∀(j n:Nat),d[j]?=some n→X.cell? ⟨blk,off+j,none⟩=some (.int .u8 (n:Int))) :
 (Extern.Bytes.bytesOf (.slice (some ⟨blk,off,none⟩) d.length cap)).run Tryz.prog X=.ok ⟨(d.map UInt8.ofNat).toArray⟩ X:=by
 have hl:=Lib.run_loadBytesX (P:=Tryz.prog) X (d.map fun n:Nat=>(n:Int)) ⟨blk,off,none⟩ .empty (fun j n hj=>by
  rw [List.getElem?_map] at hj
  cases hm:d[j]? with
  | none=>rw [hm] at hj;cases hj
  | some m =>
   rw [hm] at hj
   simp at hj;subst hj
   have ha:(⟨blk,off,none⟩:Addr).add j=⟨blk,off+j,none⟩:=by by_cases hj0:j=0<;>simp [Addr.add,hj0]
   rw [ha];exact hc j m hm)
 rw [List.length_map] at hl
 have hb2:Lib.bytesOf (d.map fun n:Nat=>(n:Int))=d.map UInt8.ofNat:=by simp [Lib.bytesOf]
 rw [hb2] at hl
 show (Extern.Bytes.loadBytes _ d.length .empty).run Tryz.prog X=_
 rw [hl]
 congr 1
 apply ByteArray.ext
 show (#[]:Array UInt8)++_=_
 simp
theorem vR (o1 o2:Obj):((w.alloc o1).alloc o2).drew=grow (w.drewN 1) #[o1,o2]:=by
 have h:(w.heap.push o1).push o2=w.heap++#[o1,o2]:=by apply Array.ext';simp
 show ({ w with heap:=(w.heap.push o1).push o2,drawn:=w.drawn+1 }:World)={ w with heap:=w.heap++#[o1,o2],drawn:=w.drawn+1 }
 rw [h]
def fu (d:List Nat):List Value:=d.map fun n:Nat=>.int .u8 (n:Int)
set_option maxRecDepth 100000 in
set_option maxHeartbeats 1000000 in
theorem D0 (x y:List Nat) (hx:x.length=32) (hy:y.length=32) (hxb:∀n∈x,n<256) (hyb:∀n∈y,n<256) (w:World) :
 CallsIn (Fw none) 0 Tryz.prog 69 #[.agg (fu x).toArray,.agg (fu y).toArray] w fun e w'=>e=.returned (.int .i64 (bZ x y))∧∃q os,w'=grow (w.drewN q) os:=by
 refine callsIn_of_wp Tryz.func69 rfl trivial ?_ rfl
 have mixed:Tryz.prog.follows .mixedOrders=true:=by kernel_rfl
 have hn:Tryz.f69.ntmps=8:=rfl
 simp only [hn,List.size_toArray,List.length_cons,List.length_nil,Nat.reduceAdd,Nat.reduceSub,Array.replicate_succ,Array.replicate_zero,List.push_toArray,List.append_toArray,List.nil_append,List.cons_append]
 gi_wp2
 have hcell:∀(W:World) (b:Nat) (d:List Nat) (T:TypeId),W.heap[b]?=some (.cells (fu d).toArray T (0,0))→∀(j n:Nat),d[j]?=some n→W.cell? ⟨b,0+j,none⟩=some (.int .u8 (n:Int)):=by
  intro W b d T hb j n hj
  simp [World.cell?,hb,fu,hj]
 generalize hW:(w.alloc (Obj.cells (fu x).toArray 25)).alloc (Obj.cells (fu y).toArray 25)=W
 have e1:W.heap[w.heap.size]?=some (.cells (fu x).toArray 25 (0,0)):=by
  rw [←hW];exact (aX (by simp)).trans be
 have e2:W.heap[w.heap.size+1]?=some (.cells (fu y).toArray 25 (0,0)):=by
  rw [←hW]
  have:=be (w:=w.alloc (Obj.cells (fu x).toArray 25)) (o:=Obj.cells (fu y).toArray 25)
  simpa using this
 have b1:=p7 (X:=W.drew) w.heap.size 0 32 x (hcell W.drew w.heap.size x _ e1)
 have b2:=p7 (X:=W.drew) (w.heap.size+1) 0 32 y (hcell W.drew (w.heap.size+1) y _ e2)
 rw [hx] at b1
 rw [hy] at b2
 gi_region_with_o (gi_at_call 109;refine (tw b1 b2 (by rw [hx,hy]) hxb hyb).mono ?_;rintro e w' ⟨rfl,rfl⟩)
 gi_wp2
 go_ret
 refine ⟨rfl,1,#[Obj.cells (fu x).toArray 25,Obj.cells (fu y).toArray 25],?_⟩
 rw [←hW]
 exact vR _ _
def kq (x:aI):List Value:=fu x.d++[.int .i64 x.n]
theorem oV (n:Int) (w:World):CallsIn (Fw none) 0 Tryz.prog 120 #[.int .i64 n] w fun e w'=>e=.returned (.bool false)∧w'=w:=by
 refine callsIn_of_wp Tryz.func120 rfl trivial ?_ rfl
 have hn:Tryz.f120.ntmps=6:=rfl
 simp only [hn,List.size_toArray,List.length_cons,List.length_nil,Nat.reduceAdd,Nat.reduceSub,Array.replicate_succ,Array.replicate_zero,List.push_toArray,List.append_toArray,List.nil_append,List.cons_append]
 gi_wp2
 go_ret
 exact ⟨rfl,rfl⟩
def ia (a b:Int):Int:=if a<b then -1 else if b<a then 1 else 0
set_option maxRecDepth 100000 in
set_option maxHeartbeats 1000000 in
theorem rX (a b:Int) (w:World):CallsIn (Fw none) 0 Tryz.prog 65 #[.int .i64 a,.int .i64 b] w fun e w'=>e=.returned (.int .i64 (ia a b))∧w'=w:=by
 refine callsIn_of_wp Tryz.func65 rfl trivial ?_ rfl
 have hn:Tryz.f65.ntmps=20:=rfl
 simp only [hn,List.size_toArray,List.length_cons,List.length_nil,Nat.reduceAdd,Nat.reduceSub,Array.replicate_succ,Array.replicate_zero,List.push_toArray,List.append_toArray,List.nil_append,List.cons_append]
 by_cases h1:a<b
 ·gi_wp2_with (gi_at_call 120;refine (oV _ _).mono ?_;rintro e w' ⟨rfl,rfl⟩)
  all_goals (go_ret;exact ⟨by simp [ia,h1],rfl⟩)
 ·by_cases h2:b<a
  ·gi_wp2_with (gi_at_call 120;refine (oV _ _).mono ?_;rintro e w' ⟨rfl,rfl⟩)
   all_goals (go_ret;exact ⟨by simp [ia,h1,h2],rfl⟩)
  ·gi_wp2_with (gi_at_call 120;refine (oV _ _).mono ?_;rintro e w' ⟨rfl,rfl⟩)
   all_goals (go_ret;exact ⟨by rw [ia,if_neg (by omega),if_neg (by omega)];rfl,rfl⟩)
set_option maxRecDepth 100000 in
set_option maxHeartbeats 1000000 in
theorem D2 (x y:aI) (w:World) :
 CallsIn (Fw none) 0 Tryz.prog 61 #[.agg (kq x).toArray,.agg (kq y).toArray] w fun e w'=>e=.returned (.int .i64 (dA x y))∧∃q os,w'=grow (w.drewN q) os:=by
 refine callsIn_of_wp Tryz.func61 rfl trivial ?_ rfl
 have mixed:Tryz.prog.follows .mixedOrders=true:=by kernel_rfl
 have hn:Tryz.f61.ntmps=19:=rfl
 simp only [hn,List.size_toArray,List.length_cons,List.length_nil,Nat.reduceAdd,Nat.reduceSub,Array.replicate_succ,Array.replicate_zero,List.push_toArray,List.append_toArray,List.nil_append,List.cons_append]
 gi_wp2
 have hcell:∀(W:World) (b:Nat) (z:aI) (T:TypeId),W.heap[b]?=some (.cells (kq z).toArray T (0,0))→(∀(j n:Nat),z.d[j]?=some n→W.cell? ⟨b,0+j,none⟩=some (.int .u8 (n:Int)))∧W.cell? ⟨b,32,none⟩=some (.int .i64 z.n):=by
  intro W b z T hb
  have h32:(fu z.d).length=32:=by simp [fu,z.h]
  refine ⟨fun j n hj=>?_,?_⟩
  ·have hlt:=bh hj
   simp only [World.cell?,hb,kq,Nat.zero_add,List.getElem?_toArray]
   rw [List.getElem?_append_left (by rw [h32,←z.h];exact hlt)]
   simp [fu,hj]
  ·simp only [World.cell?,hb,kq,List.getElem?_toArray]
   rw [List.getElem?_append_right (by rw [h32];exact Nat.le_refl _),h32]
   rfl
 generalize hW:(w.alloc (Obj.cells (kq x).toArray 27)).alloc (Obj.cells (kq y).toArray 27)=W
 have e1:W.heap[w.heap.size]?=some (.cells (kq x).toArray 27 (0,0)):=by
  rw [←hW];exact (aX (by simp)).trans be
 have e2:W.heap[w.heap.size+1]?=some (.cells (kq y).toArray 27 (0,0)):=by
  rw [←hW]
  have:=be (w:=w.alloc (Obj.cells (kq x).toArray 27)) (o:=Obj.cells (kq y).toArray 27)
  simpa using this
 have b1:=p7 (X:=W.drew) w.heap.size 0 32 x.d (hcell W.drew w.heap.size x _ e1).1
 have b2:=p7 (X:=W.drew) (w.heap.size+1) 0 32 y.d (hcell W.drew (w.heap.size+1) y _ e2).1
 rw [x.h] at b1
 rw [y.h] at b2
 have c1:=(hcell W.drew w.heap.size x _ e1).2
 have c2:=(hcell W.drew (w.heap.size+1) y _ e2).2
 clear hcell
 gi_region_with_o (gi_at_call 109;refine (tw b1 b2 (by rw [x.h,y.h]) x.b y.b).mono ?_;rintro e w' ⟨rfl,rfl⟩)
 have fin:∃q os,W.drew=grow (w.drewN q) os:=⟨1,#[Obj.cells (kq x).toArray 27,Obj.cells (kq y).toArray 27],by rw [←hW];exact vR _ _⟩
 by_cases h0:bZ x.d y.d=0
 ·have hI:dA x y=ia x.n y.n:=by rw [dA,if_pos h0];rfl
  rw [h0]
  gi_wp2_with (gi_at_call 65;refine (rX _ _ _).mono ?_;rintro e w' ⟨rfl,rfl⟩)
  go_ret
  exact ⟨by rw [hI];rfl,fin⟩
 ·have hI:dA x y=bZ x.d y.d:=by rw [dA,if_neg h0]
  gi_wp2
  go_ret
  exact ⟨by rw [hI];rfl,fin⟩
theorem nT:∀a:List Nat,bZ a a=0
 | []=>rfl
 | x::a=>by rw [bZ,if_neg (by omega),if_neg (by omega)];exact nT a
theorem ji:∀a b:List Nat,bZ b a = - bZ a b
 | [],[]=>rfl
 | [],_::_=>rfl
 | _::_,[]=>rfl
 | x::a,y::b=>by
  rw [bZ,bZ,ji a b]
  by_cases h1:x<y
  ·rw [if_neg (by omega),if_pos h1,if_pos h1];rfl
  ·by_cases h2:y<x
   ·rw [if_pos h2,if_neg h1,if_pos h2]
   ·rw [if_neg h2,if_neg h1,if_neg h1,if_neg h2]
theorem kh:∀a b:List Nat,bZ a b = -1∨bZ a b=0∨bZ a b=1
 | [],_=>.inr (.inl (by cases ‹List Nat›<;>rfl))
 | _::_,[]=>.inr (.inl rfl)
 | x::a,y::b=>by
  rw [bZ]
  by_cases h1:x<y
  ·rw [if_pos h1];exact .inl rfl
  ·by_cases h2:y<x
   ·rw [if_neg h1,if_pos h2];exact .inr (.inr rfl)
   ·rw [if_neg h1,if_neg h2];exact kh a b
theorem mh:∀{a b c:List Nat},a.length=b.length→b.length=c.length→bZ a b≤0→bZ b c≤0→bZ a c≤0∧(bZ a c=0→bZ a b=0∧bZ b c=0)
 | [],[],[],_,_,_,_=>⟨by decide,fun _=>⟨rfl,rfl⟩⟩
 | [],_::_,_,h,_,_,_=>by simp at h
 | _::_,[],_,h,_,_,_=>by simp at h
 | [],[],_::_,_,h,_,_=>by simp at h
 | _::_,_::_,[],_,h,_,_=>by simp at h
 | x::a,y::b,z::c,h,h',h1,h2=>by
  have ih:=mh (a:=a) (b:=b) (c:=c) (by simpa using h) (by simpa using h')
  rw [bZ] at h1 h2
  rw [bZ,bZ,bZ]
  by_cases a1:x<y
  ·rw [if_pos a1] at h1
   by_cases b1:y<z
   ·rw [if_pos (show x<z by omega)];exact ⟨by decide,fun h=>by cases h⟩
   ·rw [if_neg b1] at h2
    by_cases b2:z<y
    ·rw [if_pos b2] at h2;omega
    ·rw [if_pos (show x<z by omega)];exact ⟨by decide,fun h=>by cases h⟩
  ·rw [if_neg a1] at h1
   by_cases a2:y<x
   ·rw [if_pos a2] at h1;omega
   ·rw [if_neg a2] at h1
    have hxy:x=y:=by omega
    subst hxy
    by_cases b1:x<z
    ·rw [if_pos b1];exact ⟨by decide,fun h=>by cases h⟩
    ·rw [if_neg b1] at h2
     by_cases b2:z<x
     ·rw [if_pos b2] at h2;omega
     ·rw [if_neg b2] at h2
      simp only [if_neg b1,if_neg b2,if_neg a1]
      exact ih h1 h2
theorem CR {α:Type} (cf:α→α→Int) (h0:∀x,cf x x=0) (ha:∀x y,cf y x = - cf x y) (ht:∀x y z,cf x y≤0→cf y z≤0→cf x z≤0∧(cf x z=0→cf x y=0∧cf y z=0)):SWO (ltOf cf):={
 irrefl x:=by simp [ltOf,h0]
 trans x y z h1 h2:=by
  simp only [ltOf,decide_eq_true_eq] at h1 h2 ⊢
  obtain ⟨h3,h4⟩:=ht x y z (by omega) (by omega)
  rcases Int.lt_or_eq_of_le h3 with h | h
  ·exact h
  ·have:=(h4 h).1;omega
 ntrans x y z h1 h2:=by
  simp only [ltOf,decide_eq_false_iff_not,Int.not_lt] at h1 h2 ⊢
  have e1:=ha x y
  have e2:=ha y z
  have e3:=ha x z
  have:=(ht z y x (by omega) (by omega)).1
  omega }
theorem od:SWO (ltOf fun a b:ar=>bZ a.d b.d):=CR _ (fun a=>nT a.d) (fun a b=>ji a.d b.d) fun a b c=>mh (by rw [a.h,b.h]) (by rw [b.h,c.h])
theorem pF:SWO (ltOf dA):=by
 refine CR _ (fun a=>?_) (fun a b=>?_) fun a b c h1 h2=>?_
 ·simp [dA,nT]
 ·unfold dA
  have h:=ji a.d b.d
  rcases kh a.d b.d with h1 | h1 | h1
  ·rw [h1] at h ⊢;rw [h];simp
  ·rw [h1] at h ⊢;rw [h]
   simp only [Int.neg_zero,if_true]
   split<;>split<;>first | rfl | omega | (split<;>omega)
  ·rw [h1] at h ⊢;rw [h];simp
 ·have ht:=mh (a:=a.d) (b:=b.d) (c:=c.d) (by rw [a.h,b.h]) (by rw [b.h,c.h])
  unfold dA at h1 h2 ⊢
  have t1:=kh a.d b.d
  have t2:=kh b.d c.d
  have t3:=kh a.d c.d
  by_cases e1:bZ a.d b.d=0
  ·by_cases e2:bZ b.d c.d=0
   ·obtain ⟨g1,g2⟩:=ht (by omega) (by omega)
    have e3:bZ a.d c.d=0:=by
     have h3:=ji a.d b.d
     have h4:=ji b.d c.d
     have h5:=ji a.d c.d
     have:=(mh (a:=c.d) (b:=b.d) (c:=a.d) (by rw [b.h,c.h]) (by rw [a.h,b.h]) (by omega) (by omega)).1
     omega
    rw [if_pos e1] at h1 ⊢
    rw [if_pos e2] at h2 ⊢
    rw [if_pos e3]
    split at h1<;>split at h2<;>(repeat' split)<;>omega
   ·rw [if_neg e2] at h2
    obtain ⟨g1,g2⟩:=ht (by omega) (by omega)
    have e3:bZ a.d c.d≠0:=fun h=>e2 (g2 h).2
    rw [if_neg e3]
    exact ⟨g1,fun h=>absurd h e3⟩
  ·rw [if_neg e1] at h1
   have h2':bZ b.d c.d≤0:=by
    by_cases e2:bZ b.d c.d=0
    ·omega
    ·rw [if_neg e2] at h2;exact h2
   obtain ⟨g1,g2⟩:=ht (by omega) h2'
   have e3:bZ a.d c.d≠0:=fun h=>e1 (g2 h).1
   rw [if_neg e3]
   exact ⟨g1,fun h=>absurd h e3⟩
end Go.Proofs.Ev
