/- Part 12 of the proof that quiltlaw38.BlameTouching returns true: no statement of its own. -/
import Derived.Test.YtbpaeodbnleoaaaGreatDoorT7
import Derived.Test.YtbpaeodbnleoaaaGreatDoorT11
import Derived.Test.YtbpaeodbnleoaaaGreatDoorT0
import Derived.Test.YtbpaeodbnleoaaaGreatDoorT6
import Derived.Test.YtbpaeodbnleoaaaGreatDoorT8
import Derived.Shelf.Small.In.Utf8
import Derived.Shelf.Small.Strs
import Derived.Lib.BytesEntry
import Derived.Shelf.SlSortCmp.WholeK
import Derived.Shelf.Strings.Builder1
import Derived.Shelf.Small.Bits
import Derived.Shelf.Strconv.Itoa0
import Derived.Shelf.Strconv.Itoa1
import Derived.Shelf.LaysM
import Derived.Shelf.Strconv.Itoa2
import Derived.Shelf.Strconv.Itoa3
import Derived.Shelf.Strings.Search1
import Derived.Ground.Names2Prog
import Derived.Shelf.Slices.Clone
import Derived.Shelf.Slices.SearchI
import Derived.Shelf.Slices.Delete
import Derived.Shelf.Slices.Cells
import Derived.Shelf.Slices.Empties
import Derived.Ground.SlgnProg
import Derived.Shelf.SlicesE.Clone
import Derived.Ground.SlsfProg
import Derived.Shelf.SlSortCmp.Insertion
import Derived.Test.YtbpaeodbnleoaaaGreatDoorProg
import Derived.Test.YtbpaeodbnleoaaaGreatDoorT9
set_option linter.all false
namespace Go.Proofs.Ev
open Go.Proofs Go.ChangeShapes Go.WideShapes Go.ChangeAt Go.RowKit Go.Deep
open Go.Proofs.YtbpaeodbnleoaaaGreatDoor (Rows.uptoBulk Rows.uptoBulkAll)
section
variable {W:World}
theorem r3:mR W 3 (fun n:Int=>[.int .i64 n]) (fun _=>1):=Fc Tryz.underlying3
theorem r9:mR W 9 (fun l:List UInt8=>[.str l]) (fun l=>l.length+1):=Fd Tryz.underlying9
theorem MB:mR W 25 ar.cells (fun _=>1):=Fb (by kernel_rfl) Tryz.underlying25
def aI.of (x:ar) (n:Int):aI:=⟨x.d,n,x.h,x.b⟩
@[simp] theorem aI.of_cells (x:ar) (n:Int):(aI.of x n).cells=x.cells++[.int .i64 n]:=rfl
theorem lM:mR W 27 aI.cells (fun _=>1):=by
 intro X enc fuel cs d p h
 obtain ⟨f0,f1,hu,t0,o0,t1,o1⟩:∃f0 f1:Field,Tryz.prog.underlying 27=some (.struct #[f0,f1])∧f0.type=25∧f0.offset=0∧f1.type=3∧f1.offset=32:=⟨_,_,Tryz.underlying27,rfl,rfl,rfl,rfl⟩
 obtain ⟨xs,m,_,hx,hl,hlen,hg⟩:=DataW.trod_struct hu h
 rw [show Tryz.prog.cellsOf 27=33 by kernel_rfl] at hl
 match xs,hlen with
 | [y0,y1],_ =>
  have q0:=hg 0 f0 rfl
  rw [t0,o0,show Tryz.prog.cellsOf 25=32 by kernel_rfl] at q0
  obtain ⟨x0,s0,w0⟩:=MB X enc m _ y0.1 y0.2 q0
  have q1:=hg 1 f1 rfl
  rw [t1,o1,show Tryz.prog.cellsOf 3=1 by kernel_rfl] at q1
  obtain ⟨x1,s1,w1⟩:=r3 X enc m _ y1.1 y1.2 q1
  have hall:=(Is.cut s0 (Is.cut s1 (.nil hl) rfl) rfl)
  refine ⟨aI.of x0 x1,hall,?_⟩
  cases hx
  simp only [List.map_cons,List.map_nil,Rows.uptoBulk,Rows.uptoBulkAll] at *
  omega
def KT (c:aW):Nat:=c.name.length+c.data.length+(c.lines.map fun l=>l.length+1).sum+(c.over.map fun _=>1).sum+1
def PX (p:aC):Nat:=p.author.length+p.message.length+(p.deps.map fun _=>1).sum+(p.changes.map KT).sum+1
def KU (x:ah):Nat:=PX x.patch+1
theorem Tz:mR W 56 (fun l:List (List UInt8)=>[aw .loose (l.map fU)]) (fun l=>(l.map fun x=>x.length+1).sum+1):=jB Tryz.underlying56 (n:=1) (by kernel_rfl) (by decide) (fun _=>rfl) r9
theorem Ty:mR W 57 (fun l:List aI=>[aw .loose (l.map aI.cells)]) (fun l=>(l.map fun _=>1).sum+1):=jB Tryz.underlying57 (n:=33) (by kernel_rfl) (by decide) (by simp) lM
theorem TB:mR W 30 (fun l:List ar=>[aw .loose (l.map ar.cells)]) (fun l=>(l.map fun _=>1).sum+1):=jB Tryz.underlying30 (n:=32) (by kernel_rfl) (by decide) (by simp) MB
set_option maxHeartbeats 1000000 in
theorem HK:mR W 59 aW.cells KT:=by
 intro X enc fuel cs d p h
 obtain ⟨f0,f1,f2,f3,f4,f5,f6,f7,f8,f9,f10,hu,t0,o0,t1,o1,t2,o2,t3,o3,t4,o4,t5,o5,t6,o6,t7,o7,t8,o8,t9,o9,t10,o10⟩:∃f0 f1 f2 f3 f4 f5 f6 f7 f8 f9 f10:Field,Tryz.prog.underlying 59=some (.struct #[f0,f1,f2,f3,f4,f5,f6,f7,f8,f9,f10])∧f0.type=3∧f0.offset=0∧f1.type=27∧f1.offset=1∧f2.type=3∧f2.offset=34∧f3.type=27∧f3.offset=35∧f4.type=9∧f4.offset=68∧f5.type=3∧f5.offset=69∧f6.type=9∧f6.offset=70∧f7.type=27∧f7.offset=71∧f8.type=27∧f8.offset=104∧f9.type=56∧f9.offset=137∧f10.type=57∧f10.offset=138:=⟨_,_,_,_,_,_,_,_,_,_,_,Tryz.underlying59,rfl,rfl,rfl,rfl,rfl,rfl,rfl,rfl,rfl,rfl,rfl,rfl,rfl,rfl,rfl,rfl,rfl,rfl,rfl,rfl,rfl,rfl⟩
 obtain ⟨xs,m,_,hx,hl,hlen,hg⟩:=DataW.trod_struct hu h
 rw [show Tryz.prog.cellsOf 59=139 by kernel_rfl] at hl
 match xs,hlen with
 | [y0,y1,y2,y3,y4,y5,y6,y7,y8,y9,y10],_ =>
  have q0:=hg 0 f0 rfl
  rw [t0,o0,show Tryz.prog.cellsOf 3=1 by kernel_rfl] at q0
  obtain ⟨x0,s0,w0⟩:=r3 X enc m _ y0.1 y0.2 q0
  have q1:=hg 1 f1 rfl
  rw [t1,o1,show Tryz.prog.cellsOf 27=33 by kernel_rfl] at q1
  obtain ⟨x1,s1,w1⟩:=lM X enc m _ y1.1 y1.2 q1
  have q2:=hg 2 f2 rfl
  rw [t2,o2,show Tryz.prog.cellsOf 3=1 by kernel_rfl] at q2
  obtain ⟨x2,s2,w2⟩:=r3 X enc m _ y2.1 y2.2 q2
  have q3:=hg 3 f3 rfl
  rw [t3,o3,show Tryz.prog.cellsOf 27=33 by kernel_rfl] at q3
  obtain ⟨x3,s3,w3⟩:=lM X enc m _ y3.1 y3.2 q3
  have q4:=hg 4 f4 rfl
  rw [t4,o4,show Tryz.prog.cellsOf 9=1 by kernel_rfl] at q4
  obtain ⟨x4,s4,w4⟩:=r9 X enc m _ y4.1 y4.2 q4
  have q5:=hg 5 f5 rfl
  rw [t5,o5,show Tryz.prog.cellsOf 3=1 by kernel_rfl] at q5
  obtain ⟨x5,s5,w5⟩:=r3 X enc m _ y5.1 y5.2 q5
  have q6:=hg 6 f6 rfl
  rw [t6,o6,show Tryz.prog.cellsOf 9=1 by kernel_rfl] at q6
  obtain ⟨x6,s6,w6⟩:=r9 X enc m _ y6.1 y6.2 q6
  have q7:=hg 7 f7 rfl
  rw [t7,o7,show Tryz.prog.cellsOf 27=33 by kernel_rfl] at q7
  obtain ⟨x7,s7,w7⟩:=lM X enc m _ y7.1 y7.2 q7
  have q8:=hg 8 f8 rfl
  rw [t8,o8,show Tryz.prog.cellsOf 27=33 by kernel_rfl] at q8
  obtain ⟨x8,s8,w8⟩:=lM X enc m _ y8.1 y8.2 q8
  have q9:=hg 9 f9 rfl
  rw [t9,o9,show Tryz.prog.cellsOf 56=1 by kernel_rfl] at q9
  obtain ⟨x9,s9,w9⟩:=Tz X enc m _ y9.1 y9.2 q9
  have q10:=hg 10 f10 rfl
  rw [t10,o10,show Tryz.prog.cellsOf 57=1 by kernel_rfl] at q10
  obtain ⟨x10,s10,w10⟩:=Ty X enc m _ y10.1 y10.2 q10
  have hall:=(Is.cut s0 (Is.cut s1 (Is.cut s2 (Is.cut s3 (Is.cut s4 (Is.cut s5 (Is.cut s6 (Is.cut s7 (Is.cut s8 (Is.cut s9 (Is.cut s10 (.nil hl) rfl) rfl) rfl) rfl) rfl) rfl) rfl) rfl) rfl) rfl) rfl)
  refine ⟨⟨x0,x1,x2,x3,x4,x5,x6,x7,x8,x9,.loose,x10,.loose⟩,hall,?_⟩
  cases hx
  simp only [List.map_cons,List.map_nil,Rows.uptoBulk,Rows.uptoBulkAll,KT] at *
  omega
theorem TA:mR W 61 (fun l:List aW=>[aw .loose (l.map aW.cells)]) (fun l=>(l.map KT).sum+1):=jB Tryz.underlying61 (n:=139) (by kernel_rfl) (by decide) (by simp) HK
theorem z7:mR W 63 aC.cells PX:=by
 intro X enc fuel cs d p h
 obtain ⟨f0,f1,f2,f3,f4,hu,t0,o0,t1,o1,t2,o2,t3,o3,t4,o4⟩:∃f0 f1 f2 f3 f4:Field,Tryz.prog.underlying 63=some (.struct #[f0,f1,f2,f3,f4])∧f0.type=9∧f0.offset=0∧f1.type=9∧f1.offset=1∧f2.type=3∧f2.offset=2∧f3.type=30∧f3.offset=3∧f4.type=61∧f4.offset=4:=⟨_,_,_,_,_,Tryz.underlying63,rfl,rfl,rfl,rfl,rfl,rfl,rfl,rfl,rfl,rfl⟩
 obtain ⟨xs,m,_,hx,hl,hlen,hg⟩:=DataW.trod_struct hu h
 rw [show Tryz.prog.cellsOf 63=5 by kernel_rfl] at hl
 match xs,hlen with
 | [y0,y1,y2,y3,y4],_ =>
  have q0:=hg 0 f0 rfl
  rw [t0,o0,show Tryz.prog.cellsOf 9=1 by kernel_rfl] at q0
  obtain ⟨x0,s0,w0⟩:=r9 X enc m _ y0.1 y0.2 q0
  have q1:=hg 1 f1 rfl
  rw [t1,o1,show Tryz.prog.cellsOf 9=1 by kernel_rfl] at q1
  obtain ⟨x1,s1,w1⟩:=r9 X enc m _ y1.1 y1.2 q1
  have q2:=hg 2 f2 rfl
  rw [t2,o2,show Tryz.prog.cellsOf 3=1 by kernel_rfl] at q2
  obtain ⟨x2,s2,w2⟩:=r3 X enc m _ y2.1 y2.2 q2
  have q3:=hg 3 f3 rfl
  rw [t3,o3,show Tryz.prog.cellsOf 30=1 by kernel_rfl] at q3
  obtain ⟨x3,s3,w3⟩:=TB X enc m _ y3.1 y3.2 q3
  have q4:=hg 4 f4 rfl
  rw [t4,o4,show Tryz.prog.cellsOf 61=1 by kernel_rfl] at q4
  obtain ⟨x4,s4,w4⟩:=TA X enc m _ y4.1 y4.2 q4
  have hall:=(Is.cut s0 (Is.cut s1 (Is.cut s2 (Is.cut s3 (Is.cut s4 (.nil hl) rfl) rfl) rfl) rfl) rfl)
  refine ⟨⟨x0,x1,x2,x3,.loose,x4,.loose⟩,hall,?_⟩
  cases hx
  simp only [List.map_cons,List.map_nil,Rows.uptoBulk,Rows.uptoBulkAll,PX] at *
  omega
theorem xP:mR W 98 ah.cells KU:=by
 intro X enc fuel cs d p h
 obtain ⟨f0,f1,hu,t0,o0,t1,o1⟩:∃f0 f1:Field,Tryz.prog.underlying 98=some (.struct #[f0,f1])∧f0.type=25∧f0.offset=0∧f1.type=63∧f1.offset=32:=⟨_,_,Tryz.underlying98,rfl,rfl,rfl,rfl⟩
 obtain ⟨xs,m,_,hx,hl,hlen,hg⟩:=DataW.trod_struct hu h
 rw [show Tryz.prog.cellsOf 98=37 by kernel_rfl] at hl
 match xs,hlen with
 | [y0,y1],_ =>
  have q0:=hg 0 f0 rfl
  rw [t0,o0,show Tryz.prog.cellsOf 25=32 by kernel_rfl] at q0
  obtain ⟨x0,s0,w0⟩:=MB X enc m _ y0.1 y0.2 q0
  have q1:=hg 1 f1 rfl
  rw [t1,o1,show Tryz.prog.cellsOf 63=5 by kernel_rfl] at q1
  obtain ⟨x1,s1,w1⟩:=z7 X enc m _ y1.1 y1.2 q1
  have hall:=(Is.cut s0 (Is.cut s1 (.nil hl) rfl) rfl)
  refine ⟨⟨x0,x1⟩,hall,?_⟩
  cases hx
  simp only [List.map_cons,List.map_nil,Rows.uptoBulk,Rows.uptoBulkAll,KU] at *
  omega
theorem Tx:mR W 23 (fun l:List ah=>[aw .loose (l.map ah.cells)]) (fun l=>(l.map KU).sum+1):=jB Tryz.underlying23 (n:=37) (by kernel_rfl) (by decide) (by simp) xP
theorem yh {α:Type} (l:List α) (f:α→Nat) {x:α} (h:x∈l):f x≤(l.map f).sum:=by
 induction l with
 | nil=>cases h
 | cons y r ih =>
  simp only [List.map_cons,List.sum_cons]
  rcases List.mem_cons.1 h with rfl | h
  ·omega
  ·have:=ih h;omega
theorem qG {α:Type} (l:List α) (f:α→Nat) (h:∀x∈l,1≤f x):l.length≤(l.map f).sum:=by
 induction l with
 | nil=>exact Nat.le_refl _
 | cons y r ih =>
  simp only [List.map_cons,List.sum_cons,List.length_cons]
  have:=ih fun x hx=>h x (by simp [hx])
  have:=h y (by simp)
  omega
theorem Il {l:List ah} (h:(l.map KU).sum≤2^20):om l:=by
 refine ⟨Nat.le_trans (qG l KU fun x _=>by unfold KU;omega) h,fun x hx=>?_⟩
 have h1:=Nat.le_trans (yh l KU hx) h
 unfold KU PX at h1
 have h2:=qG x.patch.deps (fun _=>1) fun _ _=>Nat.le_refl _
 have h3:=qG x.patch.changes KT fun x _=>by unfold KT;omega
 refine ⟨by omega,by omega,by omega,by omega,fun c hc=>?_⟩
 have h4:=yh x.patch.changes KT hc
 have h5:KT c≤2^20:=by omega
 unfold KT at h5
 have h6:=qG c.lines (fun l=>l.length+1) fun _ _=>by omega
 have h7:=qG c.over (fun _=>1) fun _ _=>Nat.le_refl _
 refine ⟨by omega,by omega,by omega,fun y hy=>?_,by omega⟩
 have:=yh c.lines (fun l=>l.length+1) hy
 omega
variable {X:Type} {enc:TypeId×Value→X} {base:Nat} {v:Value} {d:DataW X} {p:List MemPlace}
theorem Is.here {a:AV} {V:Value} (h:Is W [a] [V]):RV vn 0 W a V:=by
 obtain ⟨_,U,h1,h2⟩:=h.2 0 a rfl
 simp only [List.getElem?_cons_zero,Option.some.injEq] at h1
 subst h1;exact h2
set_option maxRecDepth 100000 in
theorem wG (hok:Value.okWide Tryz.prog W .any base 23 v) (h:DataW.Trod enc Tryz.prog W 0 (fun _=>true) true 23 v d p) (hw:Rows.uptoBulk d≤1048576) :
 ∃s0:List ah,RV vn 0 W (aw .loose (s0.map ah.cells)) v∧om s0:=by
 have hv:=okWide_slice (Tryz.underlying23) hok
 clear hok
 obtain ⟨a,len,cap,rfl⟩:=hv
 obtain ⟨fuel,hf⟩:=h
 obtain ⟨l,h1,h2⟩:=Tx X enc _ _ _ _ hf
 have h3:(l.map KU).sum+1≤Rows.uptoBulk d:=h2
 exact ⟨l,h1.here,Il (by omega)⟩
set_option maxRecDepth 100000 in
theorem zw (hok:Value.okWide Tryz.prog W .any base 27 v) (h:DataW.Trod enc Tryz.prog W 0 (fun _=>true) true 27 v d p) :
 ∃id:aI,RV vn 0 W (.agg id.cells) v:=by
 obtain ⟨f0,f1,hu⟩:∃f0 f1:Field,Tryz.prog.underlying 27=some (.struct #[f0,f1]):=⟨_,_,Tryz.underlying27⟩
 have hv:=okWide_struct hu hok
 clear hok hu
 obtain ⟨cs,rfl,_⟩:=hv
 obtain ⟨fuel,hf⟩:=h
 obtain ⟨x,h1,_⟩:=lM X enc _ _ _ _ hf
 refine ⟨x,.agg (by have:=h1.1;simpa [Value.cells] using this) (fun j v hj=>(h1.2 j v hj).1) fun j v V hj hV=>?_⟩
 obtain ⟨_,U,e1,e2⟩:=h1.2 j v hj
 have e3:cs[j]?=some U:=by simpa [Value.cells] using e1
 rw [e3] at hV;cases hV
 exact e2
end
end Go.Proofs.Ev
namespace Go.Proofs.Ev
theorem HJ:∀(f n rest:Nat),n<f→n+rest≤Made.put f n rest
 | 0,_,_,h=>absurd h (Nat.not_lt_zero _)
 | f+1,n,rest,h=>by
  unfold Made.put
  by_cases h0:n=0
  ·rw [if_pos h0];omega
  ·rw [if_neg h0]
   have:=HJ f (n / 256) rest (by omega)
   omega
theorem zX {n:Nat}:∀{l:List Nat},n∈l→n<Made.pack l
 | m::l,h=>by
  have hp:=HJ (m+1) m (256+257*Made.pack l) (by omega)
  have e:Made.pack (m::l)=Made.put (m+1) m (256+257*Made.pack l):=rfl
  rw [e]
  rcases List.mem_cons.1 h with rfl | h
  ·omega
  ·have:=zX h;omega
theorem ki {c:Nat} {d:TypeDesc} (h:Made.decode c=some d):∃l,Made.numbers d=some l∧∀n∈l,n<c:=by
 unfold Made.decode at h
 rw [Option.filter_eq_some_iff] at h
 have h2:=h.2
 unfold Made.code at h2
 cases hn:Made.numbers d with
 | none=>rw [hn] at h2;simp at h2
 | some l =>
  rw [hn] at h2
  simp at h2
  exact ⟨l,rfl,fun n hm=>h2▸zX hm⟩
theorem vW {α β:Type} {f:α→β→Option (ForInStep β)} {Inv:β→Prop}:∀{l:List α} (_:∀a∈l,∀b s,Inv b→f a b=some s→Inv s.value) {b r:β} (_:Inv b) (_:forIn l b f=some r),Inv r
 | [],_,b,r,hb,hr=>by simp at hr;exact hr▸hb
 | a::l,h,b,r,hb,hr=>by
  rw [List.forIn_cons] at hr
  cases hf:f a b with
  | none=>rw [hf] at hr;cases hr
  | some s =>
   rw [hf] at hr
   have hs:=h a (by simp) b s hb hf
   cases s with
   | done b'=>simp at hr;exact hr▸hs
   | yield b'=>exact vW (fun a ha=>h a (by simp [ha])) hs hr
theorem yg {info:TypeId→Option TypeInfo} {fs:Array Field} {i:TypeInfo} (h:Made.reckonStruct info fs=some i):∃out,i.desc=.struct out∧∀f∈out,∃g∈fs,f.type=g.type:=by
 unfold Made.reckonStruct at h
 simp only [bind,Option.bind_eq_some_iff,pure] at h
 obtain ⟨r,hr,h⟩:=h
 have key:∀f∈r.1,∃g∈fs,f.type=g.type:=by
  rw [←Array.forIn_toList] at hr
  refine vW (Inv:=fun b=>∀f∈b.1,∃g∈fs,f.type=g.type) ?_ (by simp) hr
  intro a ha b s hb hs
  have hx:∃x:Field,s.value.1=b.1.push x∧x.type=a.type:=by
   obtain ⟨i,_,hs⟩:=Option.bind_eq_some_iff.1 hs
   split at hs
   ·cases hs
   ·split at hs
    ·cases hs
    ·split at hs
     ·obtain ⟨tag,_,hs⟩:=Option.bind_eq_some_iff.1 hs
      split at hs<;>cases hs<;>exact ⟨_,rfl,rfl⟩
     ·obtain ⟨tag,_,hs⟩:=Option.bind_eq_some_iff.1 hs
      split at hs<;>cases hs<;>exact ⟨_,rfl,rfl⟩
  obtain ⟨x,h1,h2⟩:=hx
  intro f hf
  rw [h1,Array.mem_push] at hf
  rcases hf with hf | rfl
  ·exact hb f hf
  ·exact ⟨a,by simpa using ha,h2⟩
 split at h<;>cases h<;>exact ⟨_,rfl,key⟩
theorem wl {fs:Array Field} {l:List Nat} (h:Made.numbers (.struct fs)=some l) {g:Field} (hg:g∈fs):g.type∈l:=by
 simp only [Made.numbers,Option.some.injEq] at h
 subst h
 simp only [List.mem_cons,List.mem_flatMap,List.mem_append]
 exact .inr (.inr ⟨g,by simpa using hg,.inl (.inl (.inr (.inl rfl)))⟩)
theorem lH {info:TypeId→Option TypeInfo} {d:TypeDesc} {i:TypeInfo} (h:Made.reckon info d=some i):i.desc=d∨∃fs out,d=.struct fs∧i.desc=.struct out∧∀f∈out,∃g∈fs,f.type=g.type:=by
 unfold Made.reckon at h
 split at h
 ·obtain ⟨j,_,h⟩:=Option.bind_eq_some_iff.1 h
  split at h
  ·cases h
  ·split at h
   ·cases h
   ·obtain ⟨s,_,h⟩:=Option.bind_eq_some_iff.1 h
    cases h;exact .inl rfl
  ·obtain ⟨s,_,h⟩:=Option.bind_eq_some_iff.1 h
   cases h;exact .inl rfl
 all_goals first | (cases h;done) | skip
 all_goals first
  | (obtain ⟨out,h1,h2⟩:=yg h;exact .inr ⟨_,out,rfl,h1,h2⟩)
  | (simp only [bind,Option.bind_eq_some_iff,pure,Option.some.injEq] at h
     obtain ⟨_,_,_,_,_,_,_,_,rfl⟩:=h;exact .inl rfl)
  | (simp only [bind,Option.bind_eq_some_iff,pure,Option.some.injEq] at h
     obtain ⟨_,_,_,_,_,_,rfl⟩:=h;exact .inl rfl)
  | (simp only [bind,Option.bind_eq_some_iff,pure,Option.some.injEq] at h
     obtain ⟨_,_,_,_,rfl⟩:=h;exact .inl rfl)
  | (simp only [bind,Option.bind_eq_some_iff,pure,Option.some.injEq] at h
     obtain ⟨_,⟨_,_,_⟩,rfl⟩:=h;exact .inl rfl)
  | (simp only [bind,Option.bind_eq_some_iff,pure,Option.some.injEq] at h
     obtain ⟨_,_,rfl⟩:=h;exact .inl rfl)
theorem lE {P:Program} {t:TypeId} (h:¬t<P.types.size) {i:TypeInfo} (hi:P.info? t=some i):∃info d,Made.decode (t-P.types.size)=some d∧Made.reckon info d=some i:=by
 unfold Tables.info? at hi
 rw [if_neg h] at hi
 have e:Made.infoAt P.toTables Made.depth t=(Made.decode (t-P.types.size)).bind (Made.reckon (Made.infoAt P.toTables 99)):=by
  show Made.infoAt P.toTables (99+1) t=_
  rw [Made.infoAt,if_neg h]
 rw [e,Option.bind_eq_some_iff] at hi
 obtain ⟨d,h1,h2⟩:=hi
 exact ⟨_,d,h1,h2⟩
theorem GB {P:Program} {t:TypeId} (h:¬t<P.types.size):c8 P t 1≠2:=by
 unfold c8
 rw [if_pos rfl]
 split
 ·rename_i i hi
  obtain ⟨info,d,h1,h2⟩:=lE h hi
  obtain ⟨l,h3,_⟩:=ki h1
  split
  ·rename_i hd
   rcases lH h2 with h4 | ⟨fs,out,_,h4,_⟩
   ·rw [hd] at h4
    subst h4
    simp [Made.numbers] at h3
   ·rw [hd] at h4;cases h4
  ·simp
 ·simp
def sY (P:Program):Bool:=P.types.toList.all fun i=>match i.desc with | .named _ u=>decide (u<P.types.size) | .pointer u=>decide (u<P.types.size) | _=>true
theorem uY {P:Program} (hT:sY P=true) {t:TypeId} (h:t<P.types.size) {i:TypeInfo} (hi:P.info? t=some i):(∀n u,i.desc=.named n u→u<P.types.size)∧∀u,i.desc=.pointer u→u<P.types.size:=by
 unfold Tables.info? at hi
 rw [if_pos h] at hi
 have hm:i∈P.types.toList:=by simpa using Array.mem_of_getElem? hi
 have h1:=List.all_eq_true.1 hT i hm
 refine ⟨fun n u e=>?_,fun u e=>?_⟩
 ·rw [e] at h1;exact of_decide_eq_true h1
 ·rw [e] at h1;exact of_decide_eq_true h1
theorem MA {P:Program} (hT:sY P=true) {t u:TypeId} (h:P.underlying t=some (.pointer u)):u<P.types.size∨(¬t<P.types.size∧u<t):=by
 unfold Program.underlying at h
 by_cases ht:t<P.types.size
 ·left
  split at h
  ·rename_i n v hi
   obtain ⟨j,h1,h2⟩:=Option.map_eq_some_iff.1 h
   exact (uY hT ((uY hT ht hi).1 _ _ rfl) h1).2 u h2
  ·rename_i j _ hi
   exact (uY hT ht hi).2 u (by simpa using h)
  ·cases h
 ·right
  refine ⟨ht,?_⟩
  split at h
  ·rename_i n v hi
   obtain ⟨info,d,h1,h2⟩:=lE ht hi
   obtain ⟨l,h3,_⟩:=ki h1
   rcases lH h2 with h4 | ⟨fs,out,_,h4,_⟩
   ·simp only at h4;subst h4;simp [Made.numbers] at h3
   ·cases h4
  ·rename_i j _ hi
   obtain ⟨info,d,h1,h2⟩:=lE ht hi
   obtain ⟨l,h3,h5⟩:=ki h1
   rcases lH h2 with h4 | ⟨fs,out,_,h4,_⟩
   ·have hd:d=.pointer u:=by rw [←h4];simpa using h
    subst hd
    simp only [Made.numbers,Option.some.injEq] at h3
    exact Nat.lt_of_lt_of_le (h5 u (by rw [←h3];simp)) (Nat.sub_le _ _)
   ·simp only [Option.some.injEq] at h;rw [h4] at h;cases h
  ·cases h
theorem IF {P:Program} (hT:sY P=true) {t:TypeId} (ht:¬t<P.types.size):dO P t≠1:=by
 unfold dO
 split
 ·rename_i fs hu
  split
  ·rename_i f hf
   split
   ·rename_i u hp
    split
    ·rename_i e
     exfalso
     subst e
     rcases MA hT hp with h | ⟨hf2,h⟩
     ·exact ht h
     ·have hlt:f.type<u:=by
       unfold Program.underlying at hu
       split at hu
       ·rename_i n v hi
        obtain ⟨info,d,h1,h2⟩:=lE ht hi
        obtain ⟨l,h3,_⟩:=ki h1
        rcases lH h2 with h4 | ⟨fs,out,_,h4,_⟩
        ·simp only at h4;subst h4;simp [Made.numbers] at h3
        ·cases h4
       ·rename_i j _ hi
        obtain ⟨info,d,h1,h2⟩:=lE ht hi
        obtain ⟨l,h3,h5⟩:=ki h1
        have hj:j.desc=.struct fs:=by simpa using hu
        have hm:f∈fs:=Array.mem_of_getElem? hf
        have:f.type∈l:=by
         rcases lH h2 with h4 | ⟨gs,out,hd,h4,h6⟩
         ·rw [hj] at h4;subst h4
          exact wl h3 hm
         ·rw [hj] at h4;cases h4
          obtain ⟨g,hg,e⟩:=h6 f hm
          subst hd
          rw [e];exact wl h3 hg
        exact Nat.lt_of_lt_of_le (h5 _ this) (Nat.sub_le _ _)
       ·cases hu
      exact Nat.lt_asymm h hlt
    ·simp
   ·simp
  ·simp
 ·simp
end Go.Proofs.Ev
namespace Go.Proofs.Ev
open Go.Proofs
@[simp] theorem RE (r:Option Nat) (f:FuncId):(Fw r).fn f=True:=rfl
@[simp] theorem N7 (r:Option Nat):(Fw r).depth=none:=rfl
@[simp] theorem N8 (r:Option Nat):(Fw r).round=r:=rfl
set_option maxRecDepth 100000 in
set_option maxHeartbeats 1000000 in
theorem Ji (s:ByteArray) (c:Int) (w:World):CallsIn (Fw none) 0 Tryz.prog 372 #[.string s,.int .u8 c] w fun e w'=>e=.returned (.int .i64 (Lib.indexByte s.data.toList c.toNat.toUInt8))∧w'=w:=by
 refine callsIn_of_wp Tryz.func372 rfl trivial ?_ rfl
 have hn:Tryz.f372.ntmps=8:=rfl
 simp only [hn,List.size_toArray,List.length_cons,List.length_nil,Nat.reduceAdd,Nat.reduceSub,Array.replicate_succ,Array.replicate_zero,List.push_toArray,List.append_toArray,List.nil_append,List.cons_append]
 gi_wp2
 rw [run_callFunc_extern Tryz.func391 (by kernel_rfl) (by kernel_rfl) (by kernel_rfl) (e:=Extern.BytealgIndexByte.indexByte) (by kernel_rfl),Lib.run_indexByteString]
 simp only [Result.andThen]
 gi_wp2
 go_ret
 exact ⟨rfl,rfl⟩
set_option maxRecDepth 100000 in
set_option maxHeartbeats 1000000 in
theorem tx (s:ByteArray) (c:Int) (w:World):CallsIn (Fw none) 0 Tryz.prog 324 #[.string s,.int .u8 c] w fun e w'=>e=.returned (.int .i64 (Lib.indexByte s.data.toList c.toNat.toUInt8))∧w'=w:=by
 refine callsIn_of_wp Tryz.func324 rfl trivial ?_ rfl
 have hn:Tryz.f324.ntmps=8:=rfl
 simp only [hn,List.size_toArray,List.length_cons,List.length_nil,Nat.reduceAdd,Nat.reduceSub,Array.replicate_succ,Array.replicate_zero,List.push_toArray,List.append_toArray,List.nil_append,List.cons_append]
 gi_wp2_with (gi_at_call 372;refine (Ji _ _ _).mono ?_;rintro e w' ⟨rfl,rfl⟩)
 go_ret
 exact ⟨rfl,rfl⟩
end Go.Proofs.Ev
namespace Go.Proofs.Ev
open Go.Proofs
theorem vM:∀{a b:List Nat},a.length=b.length→(∀n∈a,n<256)→(∀n∈b,n<256)→Lib.compareBytes (a.map UInt8.ofNat) (b.map UInt8.ofNat)=bZ a b
 | [],[],_,_,_=>rfl
 | [],_::_,h,_,_=>by simp at h
 | _::_,[],h,_,_=>by simp at h
 | x::a,y::b,h,ha,hb=>by
  have hx:=ha x (by simp)
  have hy:=hb y (by simp)
  have ih:=vM (a:=a) (b:=b) (by simpa using h) (fun n hn=>ha n (by simp [hn])) (fun n hn=>hb n (by simp [hn]))
  have e1:UInt8.ofNat x<UInt8.ofNat y↔x<y:=by
   rw [UInt8.lt_iff_toNat_lt,UInt8.toNat_ofNat',UInt8.toNat_ofNat',Nat.mod_eq_of_lt hx,Nat.mod_eq_of_lt hy]
  have e2:UInt8.ofNat y<UInt8.ofNat x↔y<x:=by
   rw [UInt8.lt_iff_toNat_lt,UInt8.toNat_ofNat',UInt8.toNat_ofNat',Nat.mod_eq_of_lt hx,Nat.mod_eq_of_lt hy]
  rw [List.map_cons,List.map_cons,Lib.compareBytes,bZ,ih]
  simp only [e1,e2]
def rT:List AV→Option Nat
 | [.int .u8 n]=>if 0≤n∧n<256 then some n.toNat else none
 | _=>none
def tt (H:ag) (v:AV):Option (List Nat):=(cF H v.denil).bind fun rows=>rows.mapM rT
def zW (_:Nat) (args:List AV) (H:ag):Option (AV×ag) :=
 match args with
 | [a,b] =>
  match tt H a,tt H b with
  | some x,some y=>if x.length=y.length then some (.int .i64 (bZ x y),H) else none
  | _,_=>none
 | _=>none
theorem tu:∀{rows:List (List AV)} {x:List Nat},rows.mapM rT=some x→rows=x.map (fun n:Nat=>[AV.int .u8 (n:Int)])∧∀n∈x,n<256
 | [],x,h=>by simp at h;subst h;simp
 | r::rows,x,h=>by
  rw [List.mapM_cons] at h
  cases hr:rT r with
  | none=>rw [hr] at h;simp at h
  | some n =>
   rw [hr] at h
   cases hm:rows.mapM rT with
   | none=>rw [hm] at h;simp at h
   | some y =>
    rw [hm] at h
    simp at h;subst h
    obtain ⟨i1,i2⟩:=tu hm
    unfold rT at hr
    split at hr
    ·rename_i k
     split at hr
     ·rename_i hk
      cases hr
      refine ⟨?_,fun m hm=>?_⟩
      ·rw [List.map_cons,←i1]
       congr 3
       omega
      ·rcases List.mem_cons.1 hm with rfl | hm
       ·omega
       ·exact i2 m hm
     ·cases hr
    ·cases hr
variable {N:gA} {φ:fE} {H:ag} {w:World}
theorem rV (hH:HR N φ H w) {v:AV} {X:Value} (hx:RV φ H.length w v X) {x:List Nat} (h:tt H v=some x):(Extern.Bytes.bytesOf X).run Tryz.prog w=.ok ⟨(x.map UInt8.ofNat).toArray⟩ w∧∀n∈x,n<256:=by
 unfold tt at h
 cases hr:cF H v.denil with
 | none=>rw [hr] at h;cases h
 | some rows =>
  rw [hr] at h
  obtain ⟨e,hb⟩:=tu (rows:=rows) (x:=x) h
  refine ⟨?_,hb⟩
  obtain ⟨base,cap,rfl,_,hc⟩:=gF hH hx.denil hr
  have hlen:rows.length=x.length:=by rw [e];simp
  cases base with
  | none =>
   have h0:rows=[]:=by
    rcases Classical.em (rows=[]) with h | h
    ·exact h
    ·obtain ⟨a,_,h1,_⟩:=hc h;cases h1
   have hx0:x=[]:=List.length_eq_zero_iff.1 (by rw [←hlen,h0];rfl)
   subst hx0
   rfl
  | some a =>
   have hl:=Lib.run_loadBytesX (P:=Tryz.prog) w (x.map fun n:Nat=>(n:Int)) a .empty (fun j n hj=>by
    rw [List.getElem?_map] at hj
    cases hm:x[j]? with
    | none=>rw [hm] at hj;cases hj
    | some m =>
     rw [hm] at hj
     simp at hj;subst hj
     have hne:rows≠[]:=by intro h0;rw [h0] at hlen;have:=(List.getElem?_eq_some_iff.1 hm).1;simp at hlen;omega
     obtain ⟨a',esz,h1,h2,h3⟩:=hc hne
     cases h1
     have hrow:rows[j]?=some [AV.int .u8 m]:=by rw [e,List.getElem?_map,hm];rfl
     obtain ⟨hz,hcell⟩:=h3 j _ hrow
     obtain ⟨_,U,hU,hrv⟩:=hcell 0 _ rfl
     cases hrv
     have hez:esz=1:=hz.symm
     subst hez
     have ha:a.add j=⟨a.block,a.off+j*1+0,none⟩:=by
      cases a;simp only at h2;subst h2;by_cases hj0:j=0<;>simp [Addr.add,hj0]
     rw [ha];exact hU)
   rw [List.length_map] at hl
   have hb2:Lib.bytesOf (x.map fun n:Nat=>(n:Int))=x.map UInt8.ofNat:=by simp [Lib.bytesOf]
   rw [hb2] at hl
   show (Extern.Bytes.loadBytes a rows.length .empty).run Tryz.prog w=_
   rw [hlen,hl]
   congr 1
   apply ByteArray.ext
   show (#[]:Array UInt8)++_=_
   simp
set_option maxRecDepth 100000 in
set_option maxHeartbeats 1000000 in
theorem tw {X Y:Value} {x y:List Nat} (hx:(Extern.Bytes.bytesOf X).run Tryz.prog w=.ok ⟨(x.map UInt8.ofNat).toArray⟩ w) (hy:(Extern.Bytes.bytesOf Y).run Tryz.prog w=.ok ⟨(y.map UInt8.ofNat).toArray⟩ w) (hl:x.length=y.length) (hxb:∀n∈x,n<256) (hyb:∀n∈y,n<256) :
 CallsIn (Fw none) 0 Tryz.prog 109 #[X,Y] w fun e w'=>e=.returned (.int .i64 (bZ x y))∧w'=w:=by
 have hcmp:(Extern.BytealgCompare.compare #[X,Y]).run Tryz.prog w=.ok (.int .i64 (bZ x y)) w:=by
  change Sem.run Tryz.prog (do pure (goInt (Extern.BytealgCompare.cmp (←Extern.Bytes.bytesOf X) (←Extern.Bytes.bytesOf Y)))) w=_
  simp only [Sem.run_bind,Sem.run_pure,hx,hy,Result.andThen]
  rw [Lib.cmp_eq,←vM hl hxb hyb]
  rfl
 refine callsIn_of_wp Tryz.func109 rfl trivial ?_ rfl
 have hn:Tryz.f109.ntmps=8:=rfl
 simp only [hn,List.size_toArray,List.length_cons,List.length_nil,Nat.reduceAdd,Nat.reduceSub,Array.replicate_succ,Array.replicate_zero,List.push_toArray,List.append_toArray,List.nil_append,List.cons_append]
 gi_wp2
 rw [run_callFunc_extern Tryz.func171 (by kernel_rfl) (by kernel_rfl) (by kernel_rfl) (e:=Extern.BytealgCompare.compare) (by kernel_rfl),hcmp]
 simp only [Result.andThen]
 gi_wp2
 go_ret
 exact ⟨rfl,rfl⟩
end Go.Proofs.Ev
namespace Go.Proofs.Ev
open Go.Proofs
def fZ (P:Program) (N:gA) (f:FuncId) (p:Nat→List AV→ag→Option (AV×ag)):Prop :=
 (∃fn:Func,P.funcs[f]?=some fn∧fn.body.isSome=true)∧∀base args H v H',p base args H=some (v,H')→∀φ w (Vs:Array Value),base≤H.length→HR N φ H w→kN (fun v V=>RV φ H.length w v V) args Vs.toList→
  CallsIn (Fw none) 0 P f Vs w fun e w'=>∃V φ',e=.returned V∧RV φ' H'.length w' v V∧HR N φ' H' w'∧cj φ H.length w φ' H'.length w'∧∀b,b<base→H'[b]?=H[b]?
theorem yj {α β:Type} {R:α→β→Prop} {a b:α} {Vs:Array β} (h:kN R [a,b] Vs.toList):∃X Y,Vs=#[X,Y]∧R a X∧R b Y:=by
 obtain ⟨l⟩:=Vs
 cases h with
 | cons h1 t =>
  cases t with
  | cons h2 t =>
   cases t
   exact ⟨_,_,rfl,h1,h2⟩
theorem qJ {α β:Type} {R:α→β→Prop} {a:α} {Vs:Array β} (h:kN R [a] Vs.toList):∃X,Vs=#[X]∧R a X:=by
 obtain ⟨l⟩:=Vs
 cases h with
 | cons h1 t =>
  cases t
  exact ⟨_,rfl,h1⟩
theorem GD (N:gA):fZ Tryz.prog N 109 zW:=by
 refine ⟨⟨_,Tryz.func109,rfl⟩,fun base args H v H' h φ w Vs hb hH ht=>?_⟩
 unfold zW at h
 split at h
 ·rename_i a b
  split at h
  ·rename_i x y hx hy
   split at h
   ·rename_i hl
    cases h
    obtain ⟨X,Y,rfl,h1,h2⟩:=yj ht
    obtain ⟨x1,x2⟩:=rV hH h1 hx
    obtain ⟨y1,y2⟩:=rV hH h2 hy
    refine (tw x1 y1 hl x2 y2).mono ?_
    rintro e w' ⟨rfl,rfl⟩
    exact ⟨_,φ,rfl,.int _ _,hH,cj.refl,fun _ _=>rfl⟩
   ·cases h
  ·cases h
 ·cases h
def E9 (_:Nat) (args:List AV) (H:ag):Option (AV×ag) :=
 match args with
 | [.str s,.int .u8 c]=>some (.int .i64 (Lib.indexByte s c.toNat.toUInt8),H)
 | _=>none
theorem Mf (N:gA):fZ Tryz.prog N 324 E9:=by
 refine ⟨⟨_,Tryz.func324,rfl⟩,fun base args H v H' h φ w Vs hb hH ht=>?_⟩
 unfold E9 at h
 split at h
 ·rename_i s c
  cases h
  obtain ⟨X,Y,rfl,h1,h2⟩:=yj ht
  cases h1
  cases h2
  refine (tx _ _ _).mono ?_
  rintro e w' ⟨rfl,rfl⟩
  exact ⟨_,φ,rfl,.int _ _,hH,cj.refl,fun _ _=>rfl⟩
 ·cases h
end Go.Proofs.Ev
namespace Go.Proofs
open Go.Shelf
def Tryz.laysM246_ren:Go.Shelf.Ren:=⟨fun | 246=>288 | 283=>349 | 284=>350 | 285=>351 | 286=>352 | 129=>119 | 317=>380 | 318=>381 | 319=>382 | 320=>383 | 337=>394 | 338=>395 | n=>n,fun | 2=>2 | 3=>3 | 9=>9 | 4=>4 | 171=>391 | 0=>0 | 53=>218 | 37=>207 | 5=>5 | 173=>393 | 212=>418 | 51=>216 | 20=>20 | 213=>419 | 46=>146 | 232=>24 | 233=>435 | n=>n,fun | 17=>1 | 18=>2 | 19=>3 | n=>n⟩
def Tryz.laysM243_ren:Go.Shelf.Ren:=⟨fun | 243=>230 | 246=>288 | 283=>349 | 284=>350 | 285=>351 | 286=>352 | 129=>119 | 317=>380 | 318=>381 | 319=>382 | 320=>383 | 337=>394 | 338=>395 | n=>n,fun | 3=>3 | 9=>9 | 2=>2 | 4=>4 | 171=>391 | 0=>0 | 53=>218 | 37=>207 | 5=>5 | 173=>393 | 212=>418 | 51=>216 | 20=>20 | 213=>419 | 46=>146 | 232=>24 | 233=>435 | n=>n,fun | 17=>1 | 18=>2 | 19=>3 | n=>n⟩
def Tryz.laysM171_ren:Go.Shelf.Ren:=⟨fun | 171=>155 | 243=>230 | 246=>288 | 283=>349 | 284=>350 | 285=>351 | 286=>352 | 129=>119 | 317=>380 | 318=>381 | 319=>382 | 320=>383 | 337=>394 | 338=>395 | n=>n,fun | 3=>3 | 9=>9 | 2=>2 | 4=>4 | 171=>391 | 0=>0 | 53=>218 | 37=>207 | 5=>5 | 173=>393 | 212=>418 | 51=>216 | 20=>20 | 213=>419 | 46=>146 | 232=>24 | 233=>435 | n=>n,fun | 17=>1 | 18=>2 | 19=>3 | n=>n⟩
theorem Tryz.laysM171:Go.Proofs.LaysM.n171 Tryz.prog Tryz.laysM171_ren:={
 mixed:=by kernel_rfl
 f129:=Tryz.func119.trans (congrArg some (by kernel_rfl))
 f171:=Tryz.func155.trans (congrArg some (by kernel_rfl))
 f243:=Tryz.func230.trans (congrArg some (by kernel_rfl))
 f246:=Tryz.func288.trans (congrArg some (by kernel_rfl))
 f283:=Tryz.func349.trans (congrArg some (by kernel_rfl))
 f284:=Tryz.func350.trans (congrArg some (by kernel_rfl))
 f285:=Tryz.func351.trans (congrArg some (by kernel_rfl))
 f286:=Tryz.func352.trans (congrArg some (by kernel_rfl))
 f317:=Tryz.func380.trans (congrArg some (by kernel_rfl))
 f318:=Tryz.func381.trans (congrArg some (by kernel_rfl))
 f319:=Tryz.func382.trans (congrArg some (by kernel_rfl))
 f320:=Tryz.func383.trans (congrArg some (by kernel_rfl))
 f337:=Tryz.func394.trans (congrArg some (by kernel_rfl))
 f338:=Tryz.func395.trans (congrArg some (by kernel_rfl))
 t0:=Tryz.underlying0
 a0:=Tryz.isAgg0
 z0:=Tryz.sizeOf0
 v0:=Tryz.zeroValue0
 t2:=Tryz.underlying2
 a2:=Tryz.isAgg2
 z2:=Tryz.sizeOf2
 v2:=Tryz.zeroValue2
 t3:=Tryz.underlying3
 a3:=Tryz.isAgg3
 z3:=Tryz.sizeOf3
 v3:=Tryz.zeroValue3
 t4:=Tryz.underlying4
 a4:=Tryz.isAgg4
 z4:=Tryz.sizeOf4
 v4:=Tryz.zeroValue4
 t5:=Tryz.underlying5
 a5:=Tryz.isAgg5
 z5:=Tryz.sizeOf5
 v5:=Tryz.zeroValue5
 t9:=Tryz.underlying9
 a9:=Tryz.isAgg9
 z9:=Tryz.sizeOf9
 v9:=Tryz.zeroValue9
 t20:=Tryz.underlying20
 a20:=Tryz.isAgg20
 z20:=Tryz.sizeOf20
 v20:=Tryz.zeroValue20
 t37:=Tryz.underlying207
 a37:=Tryz.isAgg207
 z37:=Tryz.sizeOf207
 v37:=Tryz.zeroValue207
 t46:=Tryz.underlying146
 a46:=Tryz.isAgg146
 z46:=Tryz.sizeOf146
 v46:=Tryz.zeroValue146
 t51:=Tryz.underlying216
 a51:=Tryz.isAgg216
 z51:=Tryz.sizeOf216
 v51:=Tryz.zeroValue216
 t53:=Tryz.underlying218
 a53:=Tryz.isAgg218
 z53:=Tryz.sizeOf218
 v53:=Tryz.zeroValue218
 t171:=Tryz.underlying391
 a171:=Tryz.isAgg391
 z171:=Tryz.sizeOf391
 v171:=Tryz.zeroValue391
 t173:=Tryz.underlying393
 a173:=Tryz.isAgg393
 z173:=Tryz.sizeOf393
 v173:=Tryz.zeroValue393
 t212:=Tryz.underlying418
 a212:=Tryz.isAgg418
 z212:=Tryz.sizeOf418
 v212:=Tryz.zeroValue418
 t213:=Tryz.underlying419
 a213:=Tryz.isAgg419
 z213:=Tryz.sizeOf419
 t232:=Tryz.underlying24
 a232:=Tryz.isAgg24
 z232:=Tryz.sizeOf24
 v232:=Tryz.zeroValue24
 t233:=Tryz.underlying435
 a233:=Tryz.isAgg435
 z233:=Tryz.sizeOf435
 v233:=Tryz.zeroValue435
 g17:=by kernel_rfl
 g18:=by kernel_rfl
 g19:=by kernel_rfl
 i0:=by kernel_rfl
 i2:=by kernel_rfl
 i3:=by kernel_rfl
 i4:=by kernel_rfl
 i5:=by kernel_rfl
 i9:=by kernel_rfl
 i20:=by kernel_rfl
 i37:=by kernel_rfl
 i46:=by kernel_rfl
 i51:=by kernel_rfl
 i53:=by kernel_rfl
 i171:=by kernel_rfl
 i173:=by kernel_rfl
 i212:=by kernel_rfl
 i232:=by kernel_rfl
 i233:=by kernel_rfl
 m17:=by kernel_rfl
 m18:=by kernel_rfl
 m19:=by kernel_rfl }
open Go.RowKit Go.Sort Go.Lib in
theorem Tryz.strconv_Itoa (n:Int) (h0 : -9223372036854775808≤n) (h1:n≤9223372036854775807) (w:World) (htab:Lib.TabIs Tryz.prog w "internal/strconv.uint64pow10" .u64 Lib.pow10Tab) :
 Calls Tryz.prog 155 #[.int .i64 n] w fun e w'=>e=.returned (.string ⟨(Lib.itoa n).toArray⟩)∧∃k os,w'=grow (w.drewN k) os:=Any.strconv_Itoa Tryz.laysM171 n h0 h1 w htab
def Tryz.laysSortI_ren:Go.Shelf.Ren:=⟨fun | 6=>166 | 15=>63 | 14=>250 | 28=>118 | 29=>119 | 20=>300 | 21=>301 | 22=>302 | 23=>303 | 24=>304 | 25=>305 | 26=>306 | 27=>307 | 46=>365 | 47=>173 | 48=>174 | 49=>366 | 50=>367 | 57=>389 | n=>n,fun | 22=>57 | 24=>27 | 25=>142 | 3=>3 | 39=>146 | 0=>0 | 53=>216 | 55=>218 | 4=>4 | 46=>210 | 45=>209 | 50=>106 | 5=>5 | 9=>9 | 66=>267 | 70=>271 | 76=>328 | 77=>329 | n=>n,fun | n=>n⟩
theorem Tryz.laysSortI:Go.Proofs.SlLaysF0.n6 Tryz.prog Tryz.laysSortI_ren:={
 mixed:=by kernel_rfl
 f6:=⟨Tryz.f166.name,by decide,Tryz.func166.trans (congrArg some (by kernel_rfl))⟩
 f14:=⟨Tryz.f250.name,by decide,Tryz.func250.trans (congrArg some (by kernel_rfl))⟩
 f15:=Tryz.func63.trans (congrArg some (by kernel_rfl))
 f20:=⟨Tryz.f300.name,by decide,Tryz.func300.trans (congrArg some (by kernel_rfl))⟩
 f21:=⟨Tryz.f301.name,by decide,Tryz.func301.trans (congrArg some (by kernel_rfl))⟩
 f22:=⟨Tryz.f302.name,by decide,Tryz.func302.trans (congrArg some (by kernel_rfl))⟩
 f23:=⟨Tryz.f303.name,by decide,Tryz.func303.trans (congrArg some (by kernel_rfl))⟩
 f24:=⟨Tryz.f304.name,by decide,Tryz.func304.trans (congrArg some (by kernel_rfl))⟩
 f25:=⟨Tryz.f305.name,by decide,Tryz.func305.trans (congrArg some (by kernel_rfl))⟩
 f26:=⟨Tryz.f306.name,by decide,Tryz.func306.trans (congrArg some (by kernel_rfl))⟩
 f27:=⟨Tryz.f307.name,by decide,Tryz.func307.trans (congrArg some (by kernel_rfl))⟩
 f28:=Tryz.func118.trans (congrArg some (by kernel_rfl))
 f29:=Tryz.func119.trans (congrArg some (by kernel_rfl))
 f46:=⟨Tryz.f365.name,by decide,Tryz.func365.trans (congrArg some (by kernel_rfl))⟩
 f47:=Tryz.func173.trans (congrArg some (by kernel_rfl))
 f48:=Tryz.func174.trans (congrArg some (by kernel_rfl))
 f49:=⟨Tryz.f366.name,by decide,Tryz.func366.trans (congrArg some (by kernel_rfl))⟩
 f50:=⟨Tryz.f367.name,by decide,Tryz.func367.trans (congrArg some (by kernel_rfl))⟩
 f57:=⟨Tryz.f389.name,by decide,Tryz.func389.trans (congrArg some (by kernel_rfl))⟩
 t0:=Tryz.underlying0
 a0:=Tryz.isAgg0
 z0:=Tryz.sizeOf0
 v0:=Tryz.zeroValue0
 t3:=Tryz.underlying3
 a3:=Tryz.isAgg3
 z3:=Tryz.sizeOf3
 v3:=Tryz.zeroValue3
 t4:=Tryz.underlying4
 a4:=Tryz.isAgg4
 z4:=Tryz.sizeOf4
 v4:=Tryz.zeroValue4
 t5:=Tryz.underlying5
 a5:=Tryz.isAgg5
 z5:=Tryz.sizeOf5
 v5:=Tryz.zeroValue5
 t9:=Tryz.underlying9
 a9:=Tryz.isAgg9
 z9:=Tryz.sizeOf9
 v9:=Tryz.zeroValue9
 t22:=Tryz.underlying57
 a22:=Tryz.isAgg57
 z22:=Tryz.sizeOf57
 v22:=Tryz.zeroValue57
 t25:=Tryz.underlying142
 a25:=Tryz.isAgg142
 z25:=Tryz.sizeOf142
 v25:=Tryz.zeroValue142
 t39:=Tryz.underlying146
 a39:=Tryz.isAgg146
 z39:=Tryz.sizeOf146
 v39:=Tryz.zeroValue146
 t45:=Tryz.underlying209
 a45:=Tryz.isAgg209
 z45:=Tryz.sizeOf209
 v45:=Tryz.zeroValue209
 t46:=Tryz.underlying210
 a46:=Tryz.isAgg210
 z46:=Tryz.sizeOf210
 v46:=Tryz.zeroValue210
 t50:=Tryz.underlying106
 a50:=Tryz.isAgg106
 z50:=Tryz.sizeOf106
 v50:=Tryz.zeroValue106
 t53:=Tryz.underlying216
 a53:=Tryz.isAgg216
 z53:=Tryz.sizeOf216
 v53:=Tryz.zeroValue216
 t55:=Tryz.underlying218
 a55:=Tryz.isAgg218
 z55:=Tryz.sizeOf218
 v55:=Tryz.zeroValue218
 t66:=Tryz.underlying267
 a66:=Tryz.isAgg267
 z66:=Tryz.sizeOf267
 v66:=Tryz.zeroValue267
 t70:=Tryz.underlying271
 a70:=Tryz.isAgg271
 z70:=Tryz.sizeOf271
 v70:=Tryz.zeroValue271
 t76:=Tryz.underlying328
 a76:=Tryz.isAgg328
 z76:=Tryz.sizeOf328
 v76:=Tryz.zeroValue328
 t77:=Tryz.underlying329
 a77:=Tryz.isAgg329
 z77:=Tryz.sizeOf329
 v77:=Tryz.zeroValue329 }
def Tryz.laysSortD_ren:Go.Shelf.Ren:=⟨fun | 6=>68 | 15=>63 | 14=>126 | 28=>118 | 29=>119 | 20=>185 | 21=>186 | 22=>187 | 23=>188 | 24=>189 | 25=>190 | 26=>191 | 27=>192 | 46=>256 | 47=>173 | 48=>174 | 49=>257 | 50=>258 | 57=>311 | n=>n,fun | 22=>30 | 24=>25 | 25=>102 | 3=>3 | 39=>146 | 0=>0 | 53=>216 | 55=>218 | 4=>4 | 46=>210 | 45=>209 | 50=>106 | 5=>5 | 9=>9 | 66=>267 | 70=>271 | 76=>328 | 77=>329 | n=>n,fun | n=>n⟩
theorem Tryz.laysSortD:Go.Proofs.SlLaysF0.n6 Tryz.prog Tryz.laysSortD_ren:={
 mixed:=by kernel_rfl
 f6:=⟨Tryz.f68.name,by decide,Tryz.func68.trans (congrArg some (by kernel_rfl))⟩
 f14:=⟨Tryz.f126.name,by decide,Tryz.func126.trans (congrArg some (by kernel_rfl))⟩
 f15:=Tryz.func63.trans (congrArg some (by kernel_rfl))
 f20:=⟨Tryz.f185.name,by decide,Tryz.func185.trans (congrArg some (by kernel_rfl))⟩
 f21:=⟨Tryz.f186.name,by decide,Tryz.func186.trans (congrArg some (by kernel_rfl))⟩
 f22:=⟨Tryz.f187.name,by decide,Tryz.func187.trans (congrArg some (by kernel_rfl))⟩
 f23:=⟨Tryz.f188.name,by decide,Tryz.func188.trans (congrArg some (by kernel_rfl))⟩
 f24:=⟨Tryz.f189.name,by decide,Tryz.func189.trans (congrArg some (by kernel_rfl))⟩
 f25:=⟨Tryz.f190.name,by decide,Tryz.func190.trans (congrArg some (by kernel_rfl))⟩
 f26:=⟨Tryz.f191.name,by decide,Tryz.func191.trans (congrArg some (by kernel_rfl))⟩
 f27:=⟨Tryz.f192.name,by decide,Tryz.func192.trans (congrArg some (by kernel_rfl))⟩
 f28:=Tryz.func118.trans (congrArg some (by kernel_rfl))
 f29:=Tryz.func119.trans (congrArg some (by kernel_rfl))
 f46:=⟨Tryz.f256.name,by decide,Tryz.func256.trans (congrArg some (by kernel_rfl))⟩
 f47:=Tryz.func173.trans (congrArg some (by kernel_rfl))
 f48:=Tryz.func174.trans (congrArg some (by kernel_rfl))
 f49:=⟨Tryz.f257.name,by decide,Tryz.func257.trans (congrArg some (by kernel_rfl))⟩
 f50:=⟨Tryz.f258.name,by decide,Tryz.func258.trans (congrArg some (by kernel_rfl))⟩
 f57:=⟨Tryz.f311.name,by decide,Tryz.func311.trans (congrArg some (by kernel_rfl))⟩
 t0:=Tryz.underlying0
 a0:=Tryz.isAgg0
 z0:=Tryz.sizeOf0
 v0:=Tryz.zeroValue0
 t3:=Tryz.underlying3
 a3:=Tryz.isAgg3
 z3:=Tryz.sizeOf3
 v3:=Tryz.zeroValue3
 t4:=Tryz.underlying4
 a4:=Tryz.isAgg4
 z4:=Tryz.sizeOf4
 v4:=Tryz.zeroValue4
 t5:=Tryz.underlying5
 a5:=Tryz.isAgg5
 z5:=Tryz.sizeOf5
 v5:=Tryz.zeroValue5
 t9:=Tryz.underlying9
 a9:=Tryz.isAgg9
 z9:=Tryz.sizeOf9
 v9:=Tryz.zeroValue9
 t22:=Tryz.underlying30
 a22:=Tryz.isAgg30
 z22:=Tryz.sizeOf30
 v22:=Tryz.zeroValue30
 t25:=Tryz.underlying102
 a25:=Tryz.isAgg102
 z25:=Tryz.sizeOf102
 v25:=Tryz.zeroValue102
 t39:=Tryz.underlying146
 a39:=Tryz.isAgg146
 z39:=Tryz.sizeOf146
 v39:=Tryz.zeroValue146
 t45:=Tryz.underlying209
 a45:=Tryz.isAgg209
 z45:=Tryz.sizeOf209
 v45:=Tryz.zeroValue209
 t46:=Tryz.underlying210
 a46:=Tryz.isAgg210
 z46:=Tryz.sizeOf210
 v46:=Tryz.zeroValue210
 t50:=Tryz.underlying106
 a50:=Tryz.isAgg106
 z50:=Tryz.sizeOf106
 v50:=Tryz.zeroValue106
 t53:=Tryz.underlying216
 a53:=Tryz.isAgg216
 z53:=Tryz.sizeOf216
 v53:=Tryz.zeroValue216
 t55:=Tryz.underlying218
 a55:=Tryz.isAgg218
 z55:=Tryz.sizeOf218
 v55:=Tryz.zeroValue218
 t66:=Tryz.underlying267
 a66:=Tryz.isAgg267
 z66:=Tryz.sizeOf267
 v66:=Tryz.zeroValue267
 t70:=Tryz.underlying271
 a70:=Tryz.isAgg271
 z70:=Tryz.sizeOf271
 v70:=Tryz.zeroValue271
 t76:=Tryz.underlying328
 a76:=Tryz.isAgg328
 z76:=Tryz.sizeOf328
 v76:=Tryz.zeroValue328
 t77:=Tryz.underlying329
 a77:=Tryz.isAgg329
 z77:=Tryz.sizeOf329
 v77:=Tryz.zeroValue329 }
def Tryz.laysSortE_ren:Go.Shelf.Ren:=⟨fun | 6=>26 | 15=>63 | 14=>62 | 28=>118 | 29=>119 | 20=>110 | 21=>111 | 22=>112 | 23=>113 | 24=>114 | 25=>115 | 26=>116 | 27=>117 | 46=>172 | 47=>173 | 48=>174 | 49=>175 | 50=>176 | 57=>255 | n=>n,fun | 22=>41 | 24=>51 | 25=>90 | 3=>3 | 39=>146 | 0=>0 | 53=>216 | 55=>218 | 4=>4 | 46=>210 | 45=>209 | 50=>106 | 5=>5 | 9=>9 | 66=>267 | 70=>271 | 76=>328 | 77=>329 | n=>n,fun | n=>n⟩
theorem Tryz.laysSortE:Go.Proofs.SlLaysF0.n6 Tryz.prog Tryz.laysSortE_ren:={
 mixed:=by kernel_rfl
 f6:=⟨Tryz.f26.name,by decide,Tryz.func26.trans (congrArg some (by kernel_rfl))⟩
 f14:=⟨Tryz.f62.name,by decide,Tryz.func62.trans (congrArg some (by kernel_rfl))⟩
 f15:=Tryz.func63.trans (congrArg some (by kernel_rfl))
 f20:=⟨Tryz.f110.name,by decide,Tryz.func110.trans (congrArg some (by kernel_rfl))⟩
 f21:=⟨Tryz.f111.name,by decide,Tryz.func111.trans (congrArg some (by kernel_rfl))⟩
 f22:=⟨Tryz.f112.name,by decide,Tryz.func112.trans (congrArg some (by kernel_rfl))⟩
 f23:=⟨Tryz.f113.name,by decide,Tryz.func113.trans (congrArg some (by kernel_rfl))⟩
 f24:=⟨Tryz.f114.name,by decide,Tryz.func114.trans (congrArg some (by kernel_rfl))⟩
 f25:=⟨Tryz.f115.name,by decide,Tryz.func115.trans (congrArg some (by kernel_rfl))⟩
 f26:=⟨Tryz.f116.name,by decide,Tryz.func116.trans (congrArg some (by kernel_rfl))⟩
 f27:=⟨Tryz.f117.name,by decide,Tryz.func117.trans (congrArg some (by kernel_rfl))⟩
 f28:=Tryz.func118.trans (congrArg some (by kernel_rfl))
 f29:=Tryz.func119.trans (congrArg some (by kernel_rfl))
 f46:=⟨Tryz.f172.name,by decide,Tryz.func172.trans (congrArg some (by kernel_rfl))⟩
 f47:=Tryz.func173.trans (congrArg some (by kernel_rfl))
 f48:=Tryz.func174.trans (congrArg some (by kernel_rfl))
 f49:=⟨Tryz.f175.name,by decide,Tryz.func175.trans (congrArg some (by kernel_rfl))⟩
 f50:=⟨Tryz.f176.name,by decide,Tryz.func176.trans (congrArg some (by kernel_rfl))⟩
 f57:=⟨Tryz.f255.name,by decide,Tryz.func255.trans (congrArg some (by kernel_rfl))⟩
 t0:=Tryz.underlying0
 a0:=Tryz.isAgg0
 z0:=Tryz.sizeOf0
 v0:=Tryz.zeroValue0
 t3:=Tryz.underlying3
 a3:=Tryz.isAgg3
 z3:=Tryz.sizeOf3
 v3:=Tryz.zeroValue3
 t4:=Tryz.underlying4
 a4:=Tryz.isAgg4
 z4:=Tryz.sizeOf4
 v4:=Tryz.zeroValue4
 t5:=Tryz.underlying5
 a5:=Tryz.isAgg5
 z5:=Tryz.sizeOf5
 v5:=Tryz.zeroValue5
 t9:=Tryz.underlying9
 a9:=Tryz.isAgg9
 z9:=Tryz.sizeOf9
 v9:=Tryz.zeroValue9
 t22:=Tryz.underlying41
 a22:=Tryz.isAgg41
 z22:=Tryz.sizeOf41
 v22:=Tryz.zeroValue41
 t25:=Tryz.underlying90
 a25:=Tryz.isAgg90
 z25:=Tryz.sizeOf90
 v25:=Tryz.zeroValue90
 t39:=Tryz.underlying146
 a39:=Tryz.isAgg146
 z39:=Tryz.sizeOf146
 v39:=Tryz.zeroValue146
 t45:=Tryz.underlying209
 a45:=Tryz.isAgg209
 z45:=Tryz.sizeOf209
 v45:=Tryz.zeroValue209
 t46:=Tryz.underlying210
 a46:=Tryz.isAgg210
 z46:=Tryz.sizeOf210
 v46:=Tryz.zeroValue210
 t50:=Tryz.underlying106
 a50:=Tryz.isAgg106
 z50:=Tryz.sizeOf106
 v50:=Tryz.zeroValue106
 t53:=Tryz.underlying216
 a53:=Tryz.isAgg216
 z53:=Tryz.sizeOf216
 v53:=Tryz.zeroValue216
 t55:=Tryz.underlying218
 a55:=Tryz.isAgg218
 z55:=Tryz.sizeOf218
 v55:=Tryz.zeroValue218
 t66:=Tryz.underlying267
 a66:=Tryz.isAgg267
 z66:=Tryz.sizeOf267
 v66:=Tryz.zeroValue267
 t70:=Tryz.underlying271
 a70:=Tryz.isAgg271
 z70:=Tryz.sizeOf271
 v70:=Tryz.zeroValue271
 t76:=Tryz.underlying328
 a76:=Tryz.isAgg328
 z76:=Tryz.sizeOf328
 v76:=Tryz.zeroValue328
 t77:=Tryz.underlying329
 a77:=Tryz.isAgg329
 z77:=Tryz.sizeOf329
 v77:=Tryz.zeroValue329 }
end Go.Proofs
namespace Go.Proofs.Ev
open Go.Proofs Go.RowKit Go.Sort
variable {N:gA} {φ:fE} {H:ag} {w w':World}
theorem cj.keeps {n:Nat} (hs:w.heap.size≤w'.heap.size) (hk:∀(cb:Nat) (o:Obj),w.heap[cb]?=some o→w'.heap[cb]?=some o) (he:fi w w'):cj φ n w φ n w':={
 env:=he
 le:=Nat.le_refl _
 size:=hs
 loc b _ L' hL:=⟨L',hL,Nat.le_refl _,fun _=>rfl⟩
 same cb o hc _:=hk cb o hc
 nolive cb _ hn:=hn
 loops cb r hc:=⟨r,hk cb _ hc⟩
 res:=rfl
 keep cb o _ hc:=hk cb o hc }
theorem HR.keeps (h:HR N φ H w) (hs:w.heap.size≤w'.heap.size) (hk:∀(cb:Nat) (o:Obj),w.heap[cb]?=some o→w'.heap[cb]?=some o) (he:fi w w'):HR N φ H w' :=
 h.later (cj.keeps hs hk he) fun b L hL=>by
  have hlt:=(h.base b L hL).2
  rw [hk L.cb w.heap[L.cb] (Array.getElem?_eq_getElem hlt),Array.getElem?_eq_getElem hlt]
theorem Bt (k:Nat) (os:Array Obj):w.heap.size≤(grow (w.drewN k) os).heap.size∧∀(cb:Nat) (o:Obj),w.heap[cb]?=some o→(grow (w.drewN k) os).heap[cb]?=some o:=by
 refine ⟨by simp [grow,World.drewN],fun cb o h=>?_⟩
 have hlt:=(Array.getElem?_eq_some_iff.1 h).1
 show (w.heap++os)[cb]?=some o
 rw [Array.getElem?_append_left hlt];exact h
theorem GG (n:Nat):Lib.decDigits n=ld n:=by
 induction n using Nat.strongRecOn with
 | _ n ih =>
  rw [Lib.decDigits,ld]
  by_cases h:n<10
  ·rw [dif_pos h,if_pos h]
  ·rw [dif_neg h,if_neg h,ih (n / 10) (by omega)]
theorem JH (n:Int):Lib.itoa n=m6 n:=by
 unfold Lib.itoa m6
 rw [GG,GG]
def lc (N:gA):Prop:=∀(φ:fE) (w:World),FX N φ w→Lib.TabIs Tryz.prog w "internal/strconv.uint64pow10" .u64 Lib.pow10Tab
def uy (_:Nat) (args:List AV) (H:ag):Option (AV×ag) :=
 match args with
 | [.int .i64 n]=>if -9223372036854775808≤n∧n≤9223372036854775807 then some (.str (m6 n),H) else none
 | _=>none
theorem Dn (hN:lc N):fZ Tryz.prog N 155 uy:=by
 refine ⟨⟨_,Tryz.func155,rfl⟩,fun base args H v H' h φ w Vs hb hH ht=>?_⟩
 unfold uy at h
 split at h
 ·rename_i n
  split at h
  ·rename_i hn
   cases h
   obtain ⟨X,rfl,h1⟩:=qJ ht
   cases h1
   have hc:=Tryz.strconv_Itoa n hn.1 hn.2 w (hN φ w hH.kept)
   refine (callsIn_wide.2 hc:CallsIn (Fw none) 0 _ _ _ _ _).mono ?_
   rintro e w' ⟨rfl,k,os,rfl⟩
   obtain ⟨g1,g2⟩:=Bt (w:=w) k os
   rw [JH]
   exact ⟨_,φ,rfl,.str _,hH.keeps g1 g2 .refl,cj.keeps g1 g2 .refl,fun _ _=>rfl⟩
  ·cases h
 ·cases h
end Go.Proofs.Ev
