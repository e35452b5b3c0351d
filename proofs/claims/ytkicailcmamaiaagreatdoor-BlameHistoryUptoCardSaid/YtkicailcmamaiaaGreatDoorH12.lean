/- Part 12 of the proof that quiltlaw38.BlameHistory returns true: no statement of its own. -/
import Derived.Test.YtkicailcmamaiaaGreatDoorH7
import Derived.Test.YtkicailcmamaiaaGreatDoorH11
import Derived.Test.YtkicailcmamaiaaGreatDoorH0
import Derived.Test.YtkicailcmamaiaaGreatDoorH6
import Derived.Test.YtkicailcmamaiaaGreatDoorH8
import Derived.Shelf.Small.In.Utf8
import Derived.Shelf.Small.Strs
import Derived.Lib.BytesEntry
import Derived.Shelf.Strings.Builder1
import Derived.Shelf.Small.Bits
import Derived.Shelf.Strconv.Itoa0
import Derived.Shelf.Strconv.Itoa1
import Derived.Shelf.LaysM
import Derived.Shelf.Strconv.Itoa2
import Derived.Shelf.Strconv.Itoa3
import Derived.Shelf.Strings.Search1
import Derived.Ground.SlsfProg
import Derived.Shelf.SlSortCmp.Insertion
import Derived.Shelf.SlSortCmp.WholeK
import Derived.Test.YtkicailcmamaiaaGreatDoorProg
import Derived.Test.YtkicailcmamaiaaGreatDoorH9
import Derived.Test.YtkicailcmamaiaaGreatDoorH5
set_option linter.all false
namespace Go.Proofs.Ev
open Go.Proofs Go.ChangeShapes Go.WideShapes Go.ChangeAt Go.RowKit Go.Deep
open Go.Proofs.YtkicailcmamaiaaGreatDoor (Rows.uptoBulk Rows.uptoBulkAll)
section
variable {W:World}
theorem r3:mU W 3 (fun n:Int=>[.int .i64 n]) (fun _=>1):=EA Tryz.underlying3
theorem r9:mU W 9 (fun l:List UInt8=>[.str l]) (fun l=>l.length+1):=EB Tryz.underlying9
theorem Me:mU W 25 ar.cells (fun _=>1):=Ez (by kernel_rfl) Tryz.underlying25
def aC.of (x:ar) (n:Int):aC:=⟨x.d,n,x.h,x.b⟩
@[simp] theorem aC.of_cells (x:ar) (n:Int):(aC.of x n).cells=x.cells++[.int .i64 n]:=rfl
theorem lI:mU W 27 aC.cells (fun _=>1):=by
 intro X enc fuel cs d p h
 obtain ⟨f0,f1,hu,t0,o0,t1,o1⟩:∃f0 f1:Field,Tryz.prog.underlying 27=some (.struct #[f0,f1])∧f0.type=25∧f0.offset=0∧f1.type=3∧f1.offset=32:=⟨_,_,Tryz.underlying27,rfl,rfl,rfl,rfl⟩
 obtain ⟨xs,m,_,hx,hl,hlen,hg⟩:=DataW.trod_struct hu h
 rw [show Tryz.prog.cellsOf 27=33 by kernel_rfl] at hl
 match xs,hlen with
 | [y0,y1],_ =>
  have q0:=hg 0 f0 rfl
  rw [t0,o0,show Tryz.prog.cellsOf 25=32 by kernel_rfl] at q0
  obtain ⟨x0,s0,w0⟩:=Me X enc m _ y0.1 y0.2 q0
  have q1:=hg 1 f1 rfl
  rw [t1,o1,show Tryz.prog.cellsOf 3=1 by kernel_rfl] at q1
  obtain ⟨x1,s1,w1⟩:=r3 X enc m _ y1.1 y1.2 q1
  have hall:=(Is.cut s0 (Is.cut s1 (.nil hl) rfl) rfl)
  refine ⟨aC.of x0 x1,hall,?_⟩
  cases hx
  simp only [List.map_cons,List.map_nil,Rows.uptoBulk,Rows.uptoBulkAll] at *
  omega
def Ko (c:aW):Nat:=c.name.length+c.data.length+(c.lines.map fun l=>l.length+1).sum+(c.over.map fun _=>1).sum+1
def PC (p:aA):Nat:=p.author.length+p.message.length+(p.deps.map fun _=>1).sum+(p.changes.map Ko).sum+1
def Kp (x:ag):Nat:=PC x.patch+1
theorem SS:mU W 47 (fun l:List (List UInt8)=>[am .loose (l.map fX)]) (fun l=>(l.map fun x=>x.length+1).sum+1):=jx Tryz.underlying47 (n:=1) (by kernel_rfl) (by decide) (fun _=>rfl) r9
theorem SR:mU W 48 (fun l:List aC=>[am .loose (l.map aC.cells)]) (fun l=>(l.map fun _=>1).sum+1):=jx Tryz.underlying48 (n:=33) (by kernel_rfl) (by decide) (by simp) lI
theorem SU:mU W 34 (fun l:List ar=>[am .loose (l.map ar.cells)]) (fun l=>(l.map fun _=>1).sum+1):=jx Tryz.underlying34 (n:=32) (by kernel_rfl) (by decide) (by simp) Me
set_option maxHeartbeats 1000000 in
theorem G7:mU W 50 aW.cells Ko:=by
 intro X enc fuel cs d p h
 obtain ⟨f0,f1,f2,f3,f4,f5,f6,f7,f8,f9,f10,hu,t0,o0,t1,o1,t2,o2,t3,o3,t4,o4,t5,o5,t6,o6,t7,o7,t8,o8,t9,o9,t10,o10⟩:∃f0 f1 f2 f3 f4 f5 f6 f7 f8 f9 f10:Field,Tryz.prog.underlying 50=some (.struct #[f0,f1,f2,f3,f4,f5,f6,f7,f8,f9,f10])∧f0.type=3∧f0.offset=0∧f1.type=27∧f1.offset=1∧f2.type=3∧f2.offset=34∧f3.type=27∧f3.offset=35∧f4.type=9∧f4.offset=68∧f5.type=3∧f5.offset=69∧f6.type=9∧f6.offset=70∧f7.type=27∧f7.offset=71∧f8.type=27∧f8.offset=104∧f9.type=47∧f9.offset=137∧f10.type=48∧f10.offset=138:=⟨_,_,_,_,_,_,_,_,_,_,_,Tryz.underlying50,rfl,rfl,rfl,rfl,rfl,rfl,rfl,rfl,rfl,rfl,rfl,rfl,rfl,rfl,rfl,rfl,rfl,rfl,rfl,rfl,rfl,rfl⟩
 obtain ⟨xs,m,_,hx,hl,hlen,hg⟩:=DataW.trod_struct hu h
 rw [show Tryz.prog.cellsOf 50=139 by kernel_rfl] at hl
 match xs,hlen with
 | [y0,y1,y2,y3,y4,y5,y6,y7,y8,y9,y10],_ =>
  have q0:=hg 0 f0 rfl
  rw [t0,o0,show Tryz.prog.cellsOf 3=1 by kernel_rfl] at q0
  obtain ⟨x0,s0,w0⟩:=r3 X enc m _ y0.1 y0.2 q0
  have q1:=hg 1 f1 rfl
  rw [t1,o1,show Tryz.prog.cellsOf 27=33 by kernel_rfl] at q1
  obtain ⟨x1,s1,w1⟩:=lI X enc m _ y1.1 y1.2 q1
  have q2:=hg 2 f2 rfl
  rw [t2,o2,show Tryz.prog.cellsOf 3=1 by kernel_rfl] at q2
  obtain ⟨x2,s2,w2⟩:=r3 X enc m _ y2.1 y2.2 q2
  have q3:=hg 3 f3 rfl
  rw [t3,o3,show Tryz.prog.cellsOf 27=33 by kernel_rfl] at q3
  obtain ⟨x3,s3,w3⟩:=lI X enc m _ y3.1 y3.2 q3
  have q4:=hg 4 f4 rfl
  rw [t4,o4,show Tryz.prog.cellsOf 9=1 by kernel_rfl] at q4
  obtain ⟨x4,s4,w4⟩:=r9 X enc m _ y4.1 y4.2 q4
  have q5:=hg 5 f5 rfl
  rw [t5,o5,show Tryz.prog.cellsOf 3=1 by kernel_rfl] at q5
  obtain ⟨x5,s5,w5⟩:=r3 X enc m _ y5.1 y5.2 q5
  have q6:=hg 6 f6 rfl
  rw [t6,o6,show Tryz.prog.cellsOf 9=1 by kernel_rfl] at q6
  obtain ⟨x6,s6,w6⟩:=r9 X enc m _ y6.1 y6.2 q6
  have q7:=hg 7 f7 rfl
  rw [t7,o7,show Tryz.prog.cellsOf 27=33 by kernel_rfl] at q7
  obtain ⟨x7,s7,w7⟩:=lI X enc m _ y7.1 y7.2 q7
  have q8:=hg 8 f8 rfl
  rw [t8,o8,show Tryz.prog.cellsOf 27=33 by kernel_rfl] at q8
  obtain ⟨x8,s8,w8⟩:=lI X enc m _ y8.1 y8.2 q8
  have q9:=hg 9 f9 rfl
  rw [t9,o9,show Tryz.prog.cellsOf 47=1 by kernel_rfl] at q9
  obtain ⟨x9,s9,w9⟩:=SS X enc m _ y9.1 y9.2 q9
  have q10:=hg 10 f10 rfl
  rw [t10,o10,show Tryz.prog.cellsOf 48=1 by kernel_rfl] at q10
  obtain ⟨x10,s10,w10⟩:=SR X enc m _ y10.1 y10.2 q10
  have hall:=(Is.cut s0 (Is.cut s1 (Is.cut s2 (Is.cut s3 (Is.cut s4 (Is.cut s5 (Is.cut s6 (Is.cut s7 (Is.cut s8 (Is.cut s9 (Is.cut s10 (.nil hl) rfl) rfl) rfl) rfl) rfl) rfl) rfl) rfl) rfl) rfl) rfl)
  refine ⟨⟨x0,x1,x2,x3,x4,x5,x6,x7,x8,x9,.loose,x10,.loose⟩,hall,?_⟩
  cases hx
  simp only [List.map_cons,List.map_nil,Rows.uptoBulk,Rows.uptoBulkAll,Ko] at *
  omega
theorem ST:mU W 52 (fun l:List aW=>[am .loose (l.map aW.cells)]) (fun l=>(l.map Ko).sum+1):=jx Tryz.underlying52 (n:=139) (by kernel_rfl) (by decide) (by simp) G7
theorem zK:mU W 54 aA.cells PC:=by
 intro X enc fuel cs d p h
 obtain ⟨f0,f1,f2,f3,f4,hu,t0,o0,t1,o1,t2,o2,t3,o3,t4,o4⟩:∃f0 f1 f2 f3 f4:Field,Tryz.prog.underlying 54=some (.struct #[f0,f1,f2,f3,f4])∧f0.type=9∧f0.offset=0∧f1.type=9∧f1.offset=1∧f2.type=3∧f2.offset=2∧f3.type=34∧f3.offset=3∧f4.type=52∧f4.offset=4:=⟨_,_,_,_,_,Tryz.underlying54,rfl,rfl,rfl,rfl,rfl,rfl,rfl,rfl,rfl,rfl⟩
 obtain ⟨xs,m,_,hx,hl,hlen,hg⟩:=DataW.trod_struct hu h
 rw [show Tryz.prog.cellsOf 54=5 by kernel_rfl] at hl
 match xs,hlen with
 | [y0,y1,y2,y3,y4],_ =>
  have q0:=hg 0 f0 rfl
  rw [t0,o0,show Tryz.prog.cellsOf 9=1 by kernel_rfl] at q0
  obtain ⟨x0,s0,w0⟩:=r9 X enc m _ y0.1 y0.2 q0
  have q1:=hg 1 f1 rfl
  rw [t1,o1,show Tryz.prog.cellsOf 9=1 by kernel_rfl] at q1
  obtain ⟨x1,s1,w1⟩:=r9 X enc m _ y1.1 y1.2 q1
  have q2:=hg 2 f2 rfl
  rw [t2,o2,show Tryz.prog.cellsOf 3=1 by kernel_rfl] at q2
  obtain ⟨x2,s2,w2⟩:=r3 X enc m _ y2.1 y2.2 q2
  have q3:=hg 3 f3 rfl
  rw [t3,o3,show Tryz.prog.cellsOf 34=1 by kernel_rfl] at q3
  obtain ⟨x3,s3,w3⟩:=SU X enc m _ y3.1 y3.2 q3
  have q4:=hg 4 f4 rfl
  rw [t4,o4,show Tryz.prog.cellsOf 52=1 by kernel_rfl] at q4
  obtain ⟨x4,s4,w4⟩:=ST X enc m _ y4.1 y4.2 q4
  have hall:=(Is.cut s0 (Is.cut s1 (Is.cut s2 (Is.cut s3 (Is.cut s4 (.nil hl) rfl) rfl) rfl) rfl) rfl)
  refine ⟨⟨x0,x1,x2,x3,.loose,x4,.loose⟩,hall,?_⟩
  cases hx
  simp only [List.map_cons,List.map_nil,Rows.uptoBulk,Rows.uptoBulkAll,PC] at *
  omega
theorem xX:mU W 96 ag.cells Kp:=by
 intro X enc fuel cs d p h
 obtain ⟨f0,f1,hu,t0,o0,t1,o1⟩:∃f0 f1:Field,Tryz.prog.underlying 96=some (.struct #[f0,f1])∧f0.type=25∧f0.offset=0∧f1.type=54∧f1.offset=32:=⟨_,_,Tryz.underlying96,rfl,rfl,rfl,rfl⟩
 obtain ⟨xs,m,_,hx,hl,hlen,hg⟩:=DataW.trod_struct hu h
 rw [show Tryz.prog.cellsOf 96=37 by kernel_rfl] at hl
 match xs,hlen with
 | [y0,y1],_ =>
  have q0:=hg 0 f0 rfl
  rw [t0,o0,show Tryz.prog.cellsOf 25=32 by kernel_rfl] at q0
  obtain ⟨x0,s0,w0⟩:=Me X enc m _ y0.1 y0.2 q0
  have q1:=hg 1 f1 rfl
  rw [t1,o1,show Tryz.prog.cellsOf 54=5 by kernel_rfl] at q1
  obtain ⟨x1,s1,w1⟩:=zK X enc m _ y1.1 y1.2 q1
  have hall:=(Is.cut s0 (Is.cut s1 (.nil hl) rfl) rfl)
  refine ⟨⟨x0,x1⟩,hall,?_⟩
  cases hx
  simp only [List.map_cons,List.map_nil,Rows.uptoBulk,Rows.uptoBulkAll,Kp] at *
  omega
theorem SQ:mU W 23 (fun l:List ag=>[am .loose (l.map ag.cells)]) (fun l=>(l.map Kp).sum+1):=jx Tryz.underlying23 (n:=37) (by kernel_rfl) (by decide) (by simp) xX
theorem yp {α:Type} (l:List α) (f:α→Nat) {x:α} (h:x∈l):f x≤(l.map f).sum:=by
 induction l with
 | nil=>cases h
 | cons y r ih =>
  simp only [List.map_cons,List.sum_cons]
  rcases List.mem_cons.1 h with rfl | h
  ·omega
  ·have:=ih h;omega
theorem qE {α:Type} (l:List α) (f:α→Nat) (h:∀x∈l,1≤f x):l.length≤(l.map f).sum:=by
 induction l with
 | nil=>exact Nat.le_refl _
 | cons y r ih =>
  simp only [List.map_cons,List.sum_cons,List.length_cons]
  have:=ih fun x hx=>h x (by simp [hx])
  have:=h y (by simp)
  omega
theorem HF {l:List ag} (h:(l.map Kp).sum≤2^20):oj l:=by
 refine ⟨Nat.le_trans (qE l Kp fun x _=>by unfold Kp;omega) h,fun x hx=>?_⟩
 have h1:=Nat.le_trans (yp l Kp hx) h
 unfold Kp PC at h1
 have h2:=qE x.patch.deps (fun _=>1) fun _ _=>Nat.le_refl _
 have h3:=qE x.patch.changes Ko fun x _=>by unfold Ko;omega
 refine ⟨by omega,by omega,by omega,by omega,fun c hc=>?_⟩
 have h4:=yp x.patch.changes Ko hc
 have h5:Ko c≤2^20:=by omega
 unfold Ko at h5
 have h6:=qE c.lines (fun l=>l.length+1) fun _ _=>by omega
 have h7:=qE c.over (fun _=>1) fun _ _=>Nat.le_refl _
 refine ⟨by omega,by omega,by omega,fun y hy=>?_,by omega⟩
 have:=yp c.lines (fun l=>l.length+1) hy
 omega
variable {X:Type} {enc:TypeId×Value→X} {base:Nat} {v:Value} {d:DataW X} {p:List MemPlace}
theorem Is.here {a:AV} {V:Value} (h:Is W [a] [V]):RV vn 0 W a V:=by
 obtain ⟨_,U,h1,h2⟩:=h.2 0 a rfl
 simp only [List.getElem?_cons_zero,Option.some.injEq] at h1
 subst h1;exact h2
set_option maxRecDepth 100000 in
theorem wL (hok:Value.okWide Tryz.prog W .any base 23 v) (h:DataW.Trod enc Tryz.prog W 0 (fun _=>true) true 23 v d p) (hw:Rows.uptoBulk d≤1048576) :
 ∃s0:List ag,RV vn 0 W (am .loose (s0.map ag.cells)) v∧oj s0:=by
 have hv:=okWide_slice (Tryz.underlying23) hok
 clear hok
 obtain ⟨a,len,cap,rfl⟩:=hv
 obtain ⟨fuel,hf⟩:=h
 obtain ⟨l,h1,h2⟩:=SQ X enc _ _ _ _ hf
 have h3:(l.map Kp).sum+1≤Rows.uptoBulk d:=h2
 exact ⟨l,h1.here,HF (by omega)⟩
set_option maxRecDepth 100000 in
theorem zn (hok:Value.okWide Tryz.prog W .any base 27 v) (h:DataW.Trod enc Tryz.prog W 0 (fun _=>true) true 27 v d p) :
 ∃id:aC,RV vn 0 W (.agg id.cells) v:=by
 obtain ⟨f0,f1,hu⟩:∃f0 f1:Field,Tryz.prog.underlying 27=some (.struct #[f0,f1]):=⟨_,_,Tryz.underlying27⟩
 have hv:=okWide_struct hu hok
 clear hok hu
 obtain ⟨cs,rfl,_⟩:=hv
 obtain ⟨fuel,hf⟩:=h
 obtain ⟨x,h1,_⟩:=lI X enc _ _ _ _ hf
 refine ⟨x,.agg (by have:=h1.1;simpa [Value.cells] using this) (fun j v hj=>(h1.2 j v hj).1) fun j v V hj hV=>?_⟩
 obtain ⟨_,U,e1,e2⟩:=h1.2 j v hj
 have e3:cs[j]?=some U:=by simpa [Value.cells] using e1
 rw [e3] at hV;cases hV
 exact e2
end
end Go.Proofs.Ev
namespace Go.Proofs.Ev
theorem G6:∀(f n rest:Nat),n<f→n+rest≤Made.put f n rest
 | 0,_,_,h=>absurd h (Nat.not_lt_zero _)
 | f+1,n,rest,h=>by
  unfold Made.put
  by_cases h0:n=0
  ·rw [if_pos h0];omega
  ·rw [if_neg h0]
   have:=G6 f (n / 256) rest (by omega)
   omega
theorem zG {n:Nat}:∀{l:List Nat},n∈l→n<Made.pack l
 | m::l,h=>by
  have hp:=G6 (m+1) m (256+257*Made.pack l) (by omega)
  have e:Made.pack (m::l)=Made.put (m+1) m (256+257*Made.pack l):=rfl
  rw [e]
  rcases List.mem_cons.1 h with rfl | h
  ·omega
  ·have:=zG h;omega
theorem j9 {c:Nat} {d:TypeDesc} (h:Made.decode c=some d):∃l,Made.numbers d=some l∧∀n∈l,n<c:=by
 unfold Made.decode at h
 rw [Option.filter_eq_some_iff] at h
 have h2:=h.2
 unfold Made.code at h2
 cases hn:Made.numbers d with
 | none=>rw [hn] at h2;simp at h2
 | some l =>
  rw [hn] at h2
  simp at h2
  exact ⟨l,rfl,fun n hm=>h2▸zG hm⟩
theorem vZ {α β:Type} {f:α→β→Option (ForInStep β)} {Inv:β→Prop}:∀{l:List α} (_:∀a∈l,∀b s,Inv b→f a b=some s→Inv s.value) {b r:β} (_:Inv b) (_:forIn l b f=some r),Inv r
 | [],_,b,r,hb,hr=>by simp at hr;exact hr▸hb
 | a::l,h,b,r,hb,hr=>by
  rw [List.forIn_cons] at hr
  cases hf:f a b with
  | none=>rw [hf] at hr;cases hr
  | some s =>
   rw [hf] at hr
   have hs:=h a (by simp) b s hb hf
   cases s with
   | done b'=>simp at hr;exact hr▸hs
   | yield b'=>exact vZ (fun a ha=>h a (by simp [ha])) hs hr
theorem yo {info:TypeId→Option TypeInfo} {fs:Array Field} {i:TypeInfo} (h:Made.reckonStruct info fs=some i):∃out,i.desc=.struct out∧∀f∈out,∃g∈fs,f.type=g.type:=by
 unfold Made.reckonStruct at h
 simp only [bind,Option.bind_eq_some_iff,pure] at h
 obtain ⟨r,hr,h⟩:=h
 have key:∀f∈r.1,∃g∈fs,f.type=g.type:=by
  rw [←Array.forIn_toList] at hr
  refine vZ (Inv:=fun b=>∀f∈b.1,∃g∈fs,f.type=g.type) ?_ (by simp) hr
  intro a ha b s hb hs
  have hx:∃x:Field,s.value.1=b.1.push x∧x.type=a.type:=by
   obtain ⟨i,_,hs⟩:=Option.bind_eq_some_iff.1 hs
   split at hs
   ·cases hs
   ·split at hs
    ·cases hs
    ·split at hs
     ·obtain ⟨tag,_,hs⟩:=Option.bind_eq_some_iff.1 hs
      split at hs<;>cases hs<;>exact ⟨_,rfl,rfl⟩
     ·obtain ⟨tag,_,hs⟩:=Option.bind_eq_some_iff.1 hs
      split at hs<;>cases hs<;>exact ⟨_,rfl,rfl⟩
  obtain ⟨x,h1,h2⟩:=hx
  intro f hf
  rw [h1,Array.mem_push] at hf
  rcases hf with hf | rfl
  ·exact hb f hf
  ·exact ⟨a,by simpa using ha,h2⟩
 split at h<;>cases h<;>exact ⟨_,rfl,key⟩
theorem wr {fs:Array Field} {l:List Nat} (h:Made.numbers (.struct fs)=some l) {g:Field} (hg:g∈fs):g.type∈l:=by
 simp only [Made.numbers,Option.some.injEq] at h
 subst h
 simp only [List.mem_cons,List.mem_flatMap,List.mem_append]
 exact .inr (.inr ⟨g,by simpa using hg,.inl (.inl (.inr (.inl rfl)))⟩)
theorem lE {info:TypeId→Option TypeInfo} {d:TypeDesc} {i:TypeInfo} (h:Made.reckon info d=some i):i.desc=d∨∃fs out,d=.struct fs∧i.desc=.struct out∧∀f∈out,∃g∈fs,f.type=g.type:=by
 unfold Made.reckon at h
 split at h
 ·obtain ⟨j,_,h⟩:=Option.bind_eq_some_iff.1 h
  split at h
  ·cases h
  ·split at h
   ·cases h
   ·obtain ⟨s,_,h⟩:=Option.bind_eq_some_iff.1 h
    cases h;exact .inl rfl
  ·obtain ⟨s,_,h⟩:=Option.bind_eq_some_iff.1 h
   cases h;exact .inl rfl
 all_goals first | (cases h;done) | skip
 all_goals first
  | (obtain ⟨out,h1,h2⟩:=yo h;exact .inr ⟨_,out,rfl,h1,h2⟩)
  | (simp only [bind,Option.bind_eq_some_iff,pure,Option.some.injEq] at h
     obtain ⟨_,_,_,_,_,_,_,_,rfl⟩:=h;exact .inl rfl)
  | (simp only [bind,Option.bind_eq_some_iff,pure,Option.some.injEq] at h
     obtain ⟨_,_,_,_,_,_,rfl⟩:=h;exact .inl rfl)
  | (simp only [bind,Option.bind_eq_some_iff,pure,Option.some.injEq] at h
     obtain ⟨_,_,_,_,rfl⟩:=h;exact .inl rfl)
  | (simp only [bind,Option.bind_eq_some_iff,pure,Option.some.injEq] at h
     obtain ⟨_,⟨_,_,_⟩,rfl⟩:=h;exact .inl rfl)
  | (simp only [bind,Option.bind_eq_some_iff,pure,Option.some.injEq] at h
     obtain ⟨_,_,rfl⟩:=h;exact .inl rfl)
theorem lC {P:Program} {t:TypeId} (h:¬t<P.types.size) {i:TypeInfo} (hi:P.info? t=some i):∃info d,Made.decode (t-P.types.size)=some d∧Made.reckon info d=some i:=by
 unfold Tables.info? at hi
 rw [if_neg h] at hi
 have e:Made.infoAt P.toTables Made.depth t=(Made.decode (t-P.types.size)).bind (Made.reckon (Made.infoAt P.toTables 99)):=by
  show Made.infoAt P.toTables (99+1) t=_
  rw [Made.infoAt,if_neg h]
 rw [e,Option.bind_eq_some_iff] at hi
 obtain ⟨d,h1,h2⟩:=hi
 exact ⟨_,d,h1,h2⟩
theorem F1 {P:Program} {t:TypeId} (h:¬t<P.types.size):cY P t 1≠2:=by
 unfold cY
 rw [if_pos rfl]
 split
 ·rename_i i hi
  obtain ⟨info,d,h1,h2⟩:=lC h hi
  obtain ⟨l,h3,_⟩:=j9 h1
  split
  ·rename_i hd
   rcases lE h2 with h4 | ⟨fs,out,_,h4,_⟩
   ·rw [hd] at h4
    subst h4
    simp [Made.numbers] at h3
   ·rw [hd] at h4;cases h4
  ·simp
 ·simp
def sP (P:Program):Bool:=P.types.toList.all fun i=>match i.desc with | .named _ u=>decide (u<P.types.size) | .pointer u=>decide (u<P.types.size) | _=>true
theorem uW {P:Program} (hT:sP P=true) {t:TypeId} (h:t<P.types.size) {i:TypeInfo} (hi:P.info? t=some i):(∀n u,i.desc=.named n u→u<P.types.size)∧∀u,i.desc=.pointer u→u<P.types.size:=by
 unfold Tables.info? at hi
 rw [if_pos h] at hi
 have hm:i∈P.types.toList:=by simpa using Array.mem_of_getElem? hi
 have h1:=List.all_eq_true.1 hT i hm
 refine ⟨fun n u e=>?_,fun u e=>?_⟩
 ·rw [e] at h1;exact of_decide_eq_true h1
 ·rw [e] at h1;exact of_decide_eq_true h1
theorem Md {P:Program} (hT:sP P=true) {t u:TypeId} (h:P.underlying t=some (.pointer u)):u<P.types.size∨(¬t<P.types.size∧u<t):=by
 unfold Program.underlying at h
 by_cases ht:t<P.types.size
 ·left
  split at h
  ·rename_i n v hi
   obtain ⟨j,h1,h2⟩:=Option.map_eq_some_iff.1 h
   exact (uW hT ((uW hT ht hi).1 _ _ rfl) h1).2 u h2
  ·rename_i j _ hi
   exact (uW hT ht hi).2 u (by simpa using h)
  ·cases h
 ·right
  refine ⟨ht,?_⟩
  split at h
  ·rename_i n v hi
   obtain ⟨info,d,h1,h2⟩:=lC ht hi
   obtain ⟨l,h3,_⟩:=j9 h1
   rcases lE h2 with h4 | ⟨fs,out,_,h4,_⟩
   ·simp only at h4;subst h4;simp [Made.numbers] at h3
   ·cases h4
  ·rename_i j _ hi
   obtain ⟨info,d,h1,h2⟩:=lC ht hi
   obtain ⟨l,h3,h5⟩:=j9 h1
   rcases lE h2 with h4 | ⟨fs,out,_,h4,_⟩
   ·have hd:d=.pointer u:=by rw [←h4];simpa using h
    subst hd
    simp only [Made.numbers,Option.some.injEq] at h3
    exact Nat.lt_of_lt_of_le (h5 u (by rw [←h3];simp)) (Nat.sub_le _ _)
   ·simp only [Option.some.injEq] at h;rw [h4] at h;cases h
  ·cases h
theorem H4 {P:Program} (hT:sP P=true) {t:TypeId} (ht:¬t<P.types.size):dN P t≠1:=by
 unfold dN
 split
 ·rename_i fs hu
  split
  ·rename_i f hf
   split
   ·rename_i u hp
    split
    ·rename_i e
     exfalso
     subst e
     rcases Md hT hp with h | ⟨hf2,h⟩
     ·exact ht h
     ·have hlt:f.type<u:=by
       unfold Program.underlying at hu
       split at hu
       ·rename_i n v hi
        obtain ⟨info,d,h1,h2⟩:=lC ht hi
        obtain ⟨l,h3,_⟩:=j9 h1
        rcases lE h2 with h4 | ⟨fs,out,_,h4,_⟩
        ·simp only at h4;subst h4;simp [Made.numbers] at h3
        ·cases h4
       ·rename_i j _ hi
        obtain ⟨info,d,h1,h2⟩:=lC ht hi
        obtain ⟨l,h3,h5⟩:=j9 h1
        have hj:j.desc=.struct fs:=by simpa using hu
        have hm:f∈fs:=Array.mem_of_getElem? hf
        have:f.type∈l:=by
         rcases lE h2 with h4 | ⟨gs,out,hd,h4,h6⟩
         ·rw [hj] at h4;subst h4
          exact wr h3 hm
         ·rw [hj] at h4;cases h4
          obtain ⟨g,hg,e⟩:=h6 f hm
          subst hd
          rw [e];exact wr h3 hg
        exact Nat.lt_of_lt_of_le (h5 _ this) (Nat.sub_le _ _)
       ·cases hu
      exact Nat.lt_asymm h hlt
    ·simp
   ·simp
  ·simp
 ·simp
end Go.Proofs.Ev
namespace Go.Proofs.Ev
open Go.Proofs
@[simp] theorem Re (r:Option Nat) (f:FuncId):(Fw r).fn f=True:=rfl
@[simp] theorem NM (r:Option Nat):(Fw r).depth=none:=rfl
@[simp] theorem NN (r:Option Nat):(Fw r).round=r:=rfl
set_option maxRecDepth 100000 in
set_option maxHeartbeats 1000000 in
theorem IH (s:ByteArray) (c:Int) (w:World):CallsIn (Fw none) 0 Tryz.prog 385 #[.string s,.int .u8 c] w fun e w'=>e=.returned (.int .i64 (Lib.indexByte s.data.toList c.toNat.toUInt8))∧w'=w:=by
 refine callsIn_of_wp Tryz.func385 rfl trivial ?_ rfl
 have hn:Tryz.f385.ntmps=8:=rfl
 simp only [hn,List.size_toArray,List.length_cons,List.length_nil,Nat.reduceAdd,Nat.reduceSub,Array.replicate_succ,Array.replicate_zero,List.push_toArray,List.append_toArray,List.nil_append,List.cons_append]
 gi_wp2
 rw [run_callFunc_extern Tryz.func405 (by kernel_rfl) (by kernel_rfl) (by kernel_rfl) (e:=Extern.BytealgIndexByte.indexByte) (by kernel_rfl),Lib.run_indexByteString]
 simp only [Result.andThen]
 gi_wp2
 go_ret
 exact ⟨rfl,rfl⟩
set_option maxRecDepth 100000 in
set_option maxHeartbeats 1000000 in
theorem tp (s:ByteArray) (c:Int) (w:World):CallsIn (Fw none) 0 Tryz.prog 335 #[.string s,.int .u8 c] w fun e w'=>e=.returned (.int .i64 (Lib.indexByte s.data.toList c.toNat.toUInt8))∧w'=w:=by
 refine callsIn_of_wp Tryz.func335 rfl trivial ?_ rfl
 have hn:Tryz.f335.ntmps=8:=rfl
 simp only [hn,List.size_toArray,List.length_cons,List.length_nil,Nat.reduceAdd,Nat.reduceSub,Array.replicate_succ,Array.replicate_zero,List.push_toArray,List.append_toArray,List.nil_append,List.cons_append]
 gi_wp2_with (gi_at_call 385;refine (IH _ _ _).mono ?_;rintro e w' ⟨rfl,rfl⟩)
 go_ret
 exact ⟨rfl,rfl⟩
end Go.Proofs.Ev
namespace Go.Proofs.Ev
open Go.Proofs
theorem vQ:∀{a b:List Nat},a.length=b.length→(∀n∈a,n<256)→(∀n∈b,n<256)→Lib.compareBytes (a.map UInt8.ofNat) (b.map UInt8.ofNat)=bQ a b
 | [],[],_,_,_=>rfl
 | [],_::_,h,_,_=>by simp at h
 | _::_,[],h,_,_=>by simp at h
 | x::a,y::b,h,ha,hb=>by
  have hx:=ha x (by simp)
  have hy:=hb y (by simp)
  have ih:=vQ (a:=a) (b:=b) (by simpa using h) (fun n hn=>ha n (by simp [hn])) (fun n hn=>hb n (by simp [hn]))
  have e1:UInt8.ofNat x<UInt8.ofNat y↔x<y:=by
   rw [UInt8.lt_iff_toNat_lt,UInt8.toNat_ofNat',UInt8.toNat_ofNat',Nat.mod_eq_of_lt hx,Nat.mod_eq_of_lt hy]
  have e2:UInt8.ofNat y<UInt8.ofNat x↔y<x:=by
   rw [UInt8.lt_iff_toNat_lt,UInt8.toNat_ofNat',UInt8.toNat_ofNat',Nat.mod_eq_of_lt hx,Nat.mod_eq_of_lt hy]
  rw [List.map_cons,List.map_cons,Lib.compareBytes,bQ,ih]
  simp only [e1,e2]
def rJ:List AV→Option Nat
 | [.int .u8 n]=>if 0≤n∧n<256 then some n.toNat else none
 | _=>none
def tl (H:ae) (v:AV):Option (List Nat):=(cg H v.denil).bind fun rows=>rows.mapM rJ
def zE (_:Nat) (args:List AV) (H:ae):Option (AV×ae) :=
 match args with
 | [a,b] =>
  match tl H a,tl H b with
  | some x,some y=>if x.length=y.length then some (.int .i64 (bQ x y),H) else none
  | _,_=>none
 | _=>none
theorem tm:∀{rows:List (List AV)} {x:List Nat},rows.mapM rJ=some x→rows=x.map (fun n:Nat=>[AV.int .u8 (n:Int)])∧∀n∈x,n<256
 | [],x,h=>by simp at h;subst h;simp
 | r::rows,x,h=>by
  rw [List.mapM_cons] at h
  cases hr:rJ r with
  | none=>rw [hr] at h;simp at h
  | some n =>
   rw [hr] at h
   cases hm:rows.mapM rJ with
   | none=>rw [hm] at h;simp at h
   | some y =>
    rw [hm] at h
    simp at h;subst h
    obtain ⟨i1,i2⟩:=tm hm
    unfold rJ at hr
    split at hr
    ·rename_i k
     split at hr
     ·rename_i hk
      cases hr
      refine ⟨?_,fun m hm=>?_⟩
      ·rw [List.map_cons,←i1]
       congr 3
       omega
      ·rcases List.mem_cons.1 hm with rfl | hm
       ·omega
       ·exact i2 m hm
     ·cases hr
    ·cases hr
variable {N:gH} {φ:fJ} {H:ae} {w:World}
theorem rL (hH:HR N φ H w) {v:AV} {X:Value} (hx:RV φ H.length w v X) {x:List Nat} (h:tl H v=some x):(Extern.Bytes.bytesOf X).run Tryz.prog w=.ok ⟨(x.map UInt8.ofNat).toArray⟩ w∧∀n∈x,n<256:=by
 unfold tl at h
 cases hr:cg H v.denil with
 | none=>rw [hr] at h;cases h
 | some rows =>
  rw [hr] at h
  obtain ⟨e,hb⟩:=tm (rows:=rows) (x:=x) h
  refine ⟨?_,hb⟩
  obtain ⟨base,cap,rfl,_,hc⟩:=gF hH hx.denil hr
  have hlen:rows.length=x.length:=by rw [e];simp
  cases base with
  | none =>
   have h0:rows=[]:=by
    rcases Classical.em (rows=[]) with h | h
    ·exact h
    ·obtain ⟨a,_,h1,_⟩:=hc h;cases h1
   have hx0:x=[]:=List.length_eq_zero_iff.1 (by rw [←hlen,h0];rfl)
   subst hx0
   rfl
  | some a =>
   have hl:=Lib.run_loadBytesX (P:=Tryz.prog) w (x.map fun n:Nat=>(n:Int)) a .empty (fun j n hj=>by
    rw [List.getElem?_map] at hj
    cases hm:x[j]? with
    | none=>rw [hm] at hj;cases hj
    | some m =>
     rw [hm] at hj
     simp at hj;subst hj
     have hne:rows≠[]:=by intro h0;rw [h0] at hlen;have:=(List.getElem?_eq_some_iff.1 hm).1;simp at hlen;omega
     obtain ⟨a',esz,h1,h2,h3⟩:=hc hne
     cases h1
     have hrow:rows[j]?=some [AV.int .u8 m]:=by rw [e,List.getElem?_map,hm];rfl
     obtain ⟨hz,hcell⟩:=h3 j _ hrow
     obtain ⟨_,U,hU,hrv⟩:=hcell 0 _ rfl
     cases hrv
     have hez:esz=1:=hz.symm
     subst hez
     have ha:a.add j=⟨a.block,a.off+j*1+0,none⟩:=by
      cases a;simp only at h2;subst h2;by_cases hj0:j=0<;>simp [Addr.add,hj0]
     rw [ha];exact hU)
   rw [List.length_map] at hl
   have hb2:Lib.bytesOf (x.map fun n:Nat=>(n:Int))=x.map UInt8.ofNat:=by simp [Lib.bytesOf]
   rw [hb2] at hl
   show (Extern.Bytes.loadBytes a rows.length .empty).run Tryz.prog w=_
   rw [hlen,hl]
   congr 1
   apply ByteArray.ext
   show (#[]:Array UInt8)++_=_
   simp
set_option maxRecDepth 100000 in
set_option maxHeartbeats 1000000 in
theorem tn {X Y:Value} {x y:List Nat} (hx:(Extern.Bytes.bytesOf X).run Tryz.prog w=.ok ⟨(x.map UInt8.ofNat).toArray⟩ w) (hy:(Extern.Bytes.bytesOf Y).run Tryz.prog w=.ok ⟨(y.map UInt8.ofNat).toArray⟩ w) (hl:x.length=y.length) (hxb:∀n∈x,n<256) (hyb:∀n∈y,n<256) :
 CallsIn (Fw none) 0 Tryz.prog 137 #[X,Y] w fun e w'=>e=.returned (.int .i64 (bQ x y))∧w'=w:=by
 have hcmp:(Extern.BytealgCompare.compare #[X,Y]).run Tryz.prog w=.ok (.int .i64 (bQ x y)) w:=by
  change Sem.run Tryz.prog (do pure (goInt (Extern.BytealgCompare.cmp (←Extern.Bytes.bytesOf X) (←Extern.Bytes.bytesOf Y)))) w=_
  simp only [Sem.run_bind,Sem.run_pure,hx,hy,Result.andThen]
  rw [Lib.cmp_eq,←vQ hl hxb hyb]
  rfl
 refine callsIn_of_wp Tryz.func137 rfl trivial ?_ rfl
 have hn:Tryz.f137.ntmps=8:=rfl
 simp only [hn,List.size_toArray,List.length_cons,List.length_nil,Nat.reduceAdd,Nat.reduceSub,Array.replicate_succ,Array.replicate_zero,List.push_toArray,List.append_toArray,List.nil_append,List.cons_append]
 gi_wp2
 rw [run_callFunc_extern Tryz.func202 (by kernel_rfl) (by kernel_rfl) (by kernel_rfl) (e:=Extern.BytealgCompare.compare) (by kernel_rfl),hcmp]
 simp only [Result.andThen]
 gi_wp2
 go_ret
 exact ⟨rfl,rfl⟩
end Go.Proofs.Ev
namespace Go.Proofs.Ev
open Go.Proofs
def gL (P:Program) (N:gH) (f:FuncId) (p:Nat→List AV→ae→Option (AV×ae)):Prop :=
 (∃fn:Func,P.funcs[f]?=some fn∧fn.body.isSome=true)∧∀base args H v H',p base args H=some (v,H')→∀φ w (Vs:Array Value),base≤H.length→HR N φ H w→kF (fun v V=>RV φ H.length w v V) args Vs.toList→
  CallsIn (Fw none) 0 P f Vs w fun e w'=>∃V φ',e=.returned V∧RV φ' H'.length w' v V∧HR N φ' H' w'∧bZ φ H.length w φ' H'.length w'∧∀b,b<base→H'[b]?=H[b]?
theorem yq {α β:Type} {R:α→β→Prop} {a b:α} {Vs:Array β} (h:kF R [a,b] Vs.toList):∃X Y,Vs=#[X,Y]∧R a X∧R b Y:=by
 obtain ⟨l⟩:=Vs
 cases h with
 | cons h1 t =>
  cases t with
  | cons h2 t =>
   cases t
   exact ⟨_,_,rfl,h1,h2⟩
theorem qG {α β:Type} {R:α→β→Prop} {a:α} {Vs:Array β} (h:kF R [a] Vs.toList):∃X,Vs=#[X]∧R a X:=by
 obtain ⟨l⟩:=Vs
 cases h with
 | cons h1 t =>
  cases t
  exact ⟨_,rfl,h1⟩
theorem F3 (N:gH):gL Tryz.prog N 137 zE:=by
 refine ⟨⟨_,Tryz.func137,rfl⟩,fun base args H v H' h φ w Vs hb hH ht=>?_⟩
 unfold zE at h
 split at h
 ·rename_i a b
  split at h
  ·rename_i x y hx hy
   split at h
   ·rename_i hl
    cases h
    obtain ⟨X,Y,rfl,h1,h2⟩:=yq ht
    obtain ⟨x1,x2⟩:=rL hH h1 hx
    obtain ⟨y1,y2⟩:=rL hH h2 hy
    refine (tn x1 y1 hl x2 y2).mono ?_
    rintro e w' ⟨rfl,rfl⟩
    exact ⟨_,φ,rfl,.int _ _,hH,bZ.refl,fun _ _=>rfl⟩
   ·cases h
  ·cases h
 ·cases h
def Ew (_:Nat) (args:List AV) (H:ae):Option (AV×ae) :=
 match args with
 | [.str s,.int .u8 c]=>some (.int .i64 (Lib.indexByte s c.toNat.toUInt8),H)
 | _=>none
theorem LS (N:gH):gL Tryz.prog N 335 Ew:=by
 refine ⟨⟨_,Tryz.func335,rfl⟩,fun base args H v H' h φ w Vs hb hH ht=>?_⟩
 unfold Ew at h
 split at h
 ·rename_i s c
  cases h
  obtain ⟨X,Y,rfl,h1,h2⟩:=yq ht
  cases h1
  cases h2
  refine (tp _ _ _).mono ?_
  rintro e w' ⟨rfl,rfl⟩
  exact ⟨_,φ,rfl,.int _ _,hH,bZ.refl,fun _ _=>rfl⟩
 ·cases h
end Go.Proofs.Ev
namespace Go.Proofs
open Go.Shelf
def Tryz.laysM246_ren:Go.Shelf.Ren:=⟨fun | 246=>303 | 283=>364 | 284=>365 | 285=>366 | 286=>367 | 129=>232 | 317=>395 | 318=>396 | 319=>397 | 320=>398 | 337=>409 | 338=>410 | n=>n,fun | 2=>2 | 3=>3 | 9=>9 | 4=>4 | 171=>392 | 0=>0 | 53=>270 | 37=>221 | 5=>5 | 173=>394 | 212=>424 | 51=>205 | 20=>20 | 213=>425 | 46=>209 | 232=>24 | 233=>440 | n=>n,fun | 17=>1 | 18=>2 | 19=>3 | n=>n⟩
def Tryz.laysM243_ren:Go.Shelf.Ren:=⟨fun | 243=>222 | 246=>303 | 283=>364 | 284=>365 | 285=>366 | 286=>367 | 129=>232 | 317=>395 | 318=>396 | 319=>397 | 320=>398 | 337=>409 | 338=>410 | n=>n,fun | 3=>3 | 9=>9 | 2=>2 | 4=>4 | 171=>392 | 0=>0 | 53=>270 | 37=>221 | 5=>5 | 173=>394 | 212=>424 | 51=>205 | 20=>20 | 213=>425 | 46=>209 | 232=>24 | 233=>440 | n=>n,fun | 17=>1 | 18=>2 | 19=>3 | n=>n⟩
def Tryz.laysM171_ren:Go.Shelf.Ren:=⟨fun | 171=>156 | 243=>222 | 246=>303 | 283=>364 | 284=>365 | 285=>366 | 286=>367 | 129=>232 | 317=>395 | 318=>396 | 319=>397 | 320=>398 | 337=>409 | 338=>410 | n=>n,fun | 3=>3 | 9=>9 | 2=>2 | 4=>4 | 171=>392 | 0=>0 | 53=>270 | 37=>221 | 5=>5 | 173=>394 | 212=>424 | 51=>205 | 20=>20 | 213=>425 | 46=>209 | 232=>24 | 233=>440 | n=>n,fun | 17=>1 | 18=>2 | 19=>3 | n=>n⟩
theorem Tryz.laysM171:Go.Proofs.LaysM.n171 Tryz.prog Tryz.laysM171_ren:={
 mixed:=by kernel_rfl
 f129:=Tryz.func232.trans (congrArg some (by kernel_rfl))
 f171:=Tryz.func156.trans (congrArg some (by kernel_rfl))
 f243:=Tryz.func222.trans (congrArg some (by kernel_rfl))
 f246:=Tryz.func303.trans (congrArg some (by kernel_rfl))
 f283:=Tryz.func364.trans (congrArg some (by kernel_rfl))
 f284:=Tryz.func365.trans (congrArg some (by kernel_rfl))
 f285:=Tryz.func366.trans (congrArg some (by kernel_rfl))
 f286:=Tryz.func367.trans (congrArg some (by kernel_rfl))
 f317:=Tryz.func395.trans (congrArg some (by kernel_rfl))
 f318:=Tryz.func396.trans (congrArg some (by kernel_rfl))
 f319:=Tryz.func397.trans (congrArg some (by kernel_rfl))
 f320:=Tryz.func398.trans (congrArg some (by kernel_rfl))
 f337:=Tryz.func409.trans (congrArg some (by kernel_rfl))
 f338:=Tryz.func410.trans (congrArg some (by kernel_rfl))
 t0:=Tryz.underlying0
 a0:=Tryz.isAgg0
 z0:=Tryz.sizeOf0
 v0:=Tryz.zeroValue0
 t2:=Tryz.underlying2
 a2:=Tryz.isAgg2
 z2:=Tryz.sizeOf2
 v2:=Tryz.zeroValue2
 t3:=Tryz.underlying3
 a3:=Tryz.isAgg3
 z3:=Tryz.sizeOf3
 v3:=Tryz.zeroValue3
 t4:=Tryz.underlying4
 a4:=Tryz.isAgg4
 z4:=Tryz.sizeOf4
 v4:=Tryz.zeroValue4
 t5:=Tryz.underlying5
 a5:=Tryz.isAgg5
 z5:=Tryz.sizeOf5
 v5:=Tryz.zeroValue5
 t9:=Tryz.underlying9
 a9:=Tryz.isAgg9
 z9:=Tryz.sizeOf9
 v9:=Tryz.zeroValue9
 t20:=Tryz.underlying20
 a20:=Tryz.isAgg20
 z20:=Tryz.sizeOf20
 v20:=Tryz.zeroValue20
 t37:=Tryz.underlying221
 a37:=Tryz.isAgg221
 z37:=Tryz.sizeOf221
 v37:=Tryz.zeroValue221
 t46:=Tryz.underlying209
 a46:=Tryz.isAgg209
 z46:=Tryz.sizeOf209
 v46:=Tryz.zeroValue209
 t51:=Tryz.underlying205
 a51:=Tryz.isAgg205
 z51:=Tryz.sizeOf205
 v51:=Tryz.zeroValue205
 t53:=Tryz.underlying270
 a53:=Tryz.isAgg270
 z53:=Tryz.sizeOf270
 v53:=Tryz.zeroValue270
 t171:=Tryz.underlying392
 a171:=Tryz.isAgg392
 z171:=Tryz.sizeOf392
 v171:=Tryz.zeroValue392
 t173:=Tryz.underlying394
 a173:=Tryz.isAgg394
 z173:=Tryz.sizeOf394
 v173:=Tryz.zeroValue394
 t212:=Tryz.underlying424
 a212:=Tryz.isAgg424
 z212:=Tryz.sizeOf424
 v212:=Tryz.zeroValue424
 t213:=Tryz.underlying425
 a213:=Tryz.isAgg425
 z213:=Tryz.sizeOf425
 t232:=Tryz.underlying24
 a232:=Tryz.isAgg24
 z232:=Tryz.sizeOf24
 v232:=Tryz.zeroValue24
 t233:=Tryz.underlying440
 a233:=Tryz.isAgg440
 z233:=Tryz.sizeOf440
 v233:=Tryz.zeroValue440
 g17:=by kernel_rfl
 g18:=by kernel_rfl
 g19:=by kernel_rfl
 i0:=by kernel_rfl
 i2:=by kernel_rfl
 i3:=by kernel_rfl
 i4:=by kernel_rfl
 i5:=by kernel_rfl
 i9:=by kernel_rfl
 i20:=by kernel_rfl
 i37:=by kernel_rfl
 i46:=by kernel_rfl
 i51:=by kernel_rfl
 i53:=by kernel_rfl
 i171:=by kernel_rfl
 i173:=by kernel_rfl
 i212:=by kernel_rfl
 i232:=by kernel_rfl
 i233:=by kernel_rfl
 m17:=by kernel_rfl
 m18:=by kernel_rfl
 m19:=by kernel_rfl }
open Go.RowKit Go.Sort Go.Lib in
theorem Tryz.strconv_Itoa (n:Int) (h0 : -9223372036854775808≤n) (h1:n≤9223372036854775807) (w:World) (htab:Lib.TabIs Tryz.prog w "internal/strconv.uint64pow10" .u64 Lib.pow10Tab) :
 Calls Tryz.prog 156 #[.int .i64 n] w fun e w'=>e=.returned (.string ⟨(Lib.itoa n).toArray⟩)∧∃k os,w'=grow (w.drewN k) os:=Any.strconv_Itoa Tryz.laysM171 n h0 h1 w htab
def Tryz.laysSortI_ren:Go.Shelf.Ren:=⟨fun | 6=>114 | 15=>159 | 14=>175 | 28=>231 | 29=>232 | 20=>257 | 21=>258 | 22=>259 | 23=>260 | 24=>261 | 25=>262 | 26=>263 | 27=>264 | 46=>324 | 47=>305 | 48=>306 | 49=>325 | 50=>326 | 57=>382 | n=>n,fun | 22=>48 | 24=>27 | 25=>173 | 3=>3 | 39=>209 | 0=>0 | 53=>205 | 55=>270 | 4=>4 | 46=>291 | 45=>290 | 50=>100 | 5=>5 | 9=>9 | 66=>352 | 70=>356 | 76=>396 | 77=>397 | n=>n,fun | n=>n⟩
theorem Tryz.laysSortI:Go.Proofs.SlLaysF0.n6 Tryz.prog Tryz.laysSortI_ren:={
 mixed:=by kernel_rfl
 f6:=⟨Tryz.f114.name,by decide,Tryz.func114.trans (congrArg some (by kernel_rfl))⟩
 f14:=⟨Tryz.f175.name,by decide,Tryz.func175.trans (congrArg some (by kernel_rfl))⟩
 f15:=Tryz.func159.trans (congrArg some (by kernel_rfl))
 f20:=⟨Tryz.f257.name,by decide,Tryz.func257.trans (congrArg some (by kernel_rfl))⟩
 f21:=⟨Tryz.f258.name,by decide,Tryz.func258.trans (congrArg some (by kernel_rfl))⟩
 f22:=⟨Tryz.f259.name,by decide,Tryz.func259.trans (congrArg some (by kernel_rfl))⟩
 f23:=⟨Tryz.f260.name,by decide,Tryz.func260.trans (congrArg some (by kernel_rfl))⟩
 f24:=⟨Tryz.f261.name,by decide,Tryz.func261.trans (congrArg some (by kernel_rfl))⟩
 f25:=⟨Tryz.f262.name,by decide,Tryz.func262.trans (congrArg some (by kernel_rfl))⟩
 f26:=⟨Tryz.f263.name,by decide,Tryz.func263.trans (congrArg some (by kernel_rfl))⟩
 f27:=⟨Tryz.f264.name,by decide,Tryz.func264.trans (congrArg some (by kernel_rfl))⟩
 f28:=Tryz.func231.trans (congrArg some (by kernel_rfl))
 f29:=Tryz.func232.trans (congrArg some (by kernel_rfl))
 f46:=⟨Tryz.f324.name,by decide,Tryz.func324.trans (congrArg some (by kernel_rfl))⟩
 f47:=Tryz.func305.trans (congrArg some (by kernel_rfl))
 f48:=Tryz.func306.trans (congrArg some (by kernel_rfl))
 f49:=⟨Tryz.f325.name,by decide,Tryz.func325.trans (congrArg some (by kernel_rfl))⟩
 f50:=⟨Tryz.f326.name,by decide,Tryz.func326.trans (congrArg some (by kernel_rfl))⟩
 f57:=⟨Tryz.f382.name,by decide,Tryz.func382.trans (congrArg some (by kernel_rfl))⟩
 t0:=Tryz.underlying0
 a0:=Tryz.isAgg0
 z0:=Tryz.sizeOf0
 v0:=Tryz.zeroValue0
 t3:=Tryz.underlying3
 a3:=Tryz.isAgg3
 z3:=Tryz.sizeOf3
 v3:=Tryz.zeroValue3
 t4:=Tryz.underlying4
 a4:=Tryz.isAgg4
 z4:=Tryz.sizeOf4
 v4:=Tryz.zeroValue4
 t5:=Tryz.underlying5
 a5:=Tryz.isAgg5
 z5:=Tryz.sizeOf5
 v5:=Tryz.zeroValue5
 t9:=Tryz.underlying9
 a9:=Tryz.isAgg9
 z9:=Tryz.sizeOf9
 v9:=Tryz.zeroValue9
 t22:=Tryz.underlying48
 a22:=Tryz.isAgg48
 z22:=Tryz.sizeOf48
 v22:=Tryz.zeroValue48
 t25:=Tryz.underlying173
 a25:=Tryz.isAgg173
 z25:=Tryz.sizeOf173
 v25:=Tryz.zeroValue173
 t39:=Tryz.underlying209
 a39:=Tryz.isAgg209
 z39:=Tryz.sizeOf209
 v39:=Tryz.zeroValue209
 t45:=Tryz.underlying290
 a45:=Tryz.isAgg290
 z45:=Tryz.sizeOf290
 v45:=Tryz.zeroValue290
 t46:=Tryz.underlying291
 a46:=Tryz.isAgg291
 z46:=Tryz.sizeOf291
 v46:=Tryz.zeroValue291
 t50:=Tryz.underlying100
 a50:=Tryz.isAgg100
 z50:=Tryz.sizeOf100
 v50:=Tryz.zeroValue100
 t53:=Tryz.underlying205
 a53:=Tryz.isAgg205
 z53:=Tryz.sizeOf205
 v53:=Tryz.zeroValue205
 t55:=Tryz.underlying270
 a55:=Tryz.isAgg270
 z55:=Tryz.sizeOf270
 v55:=Tryz.zeroValue270
 t66:=Tryz.underlying352
 a66:=Tryz.isAgg352
 z66:=Tryz.sizeOf352
 v66:=Tryz.zeroValue352
 t70:=Tryz.underlying356
 a70:=Tryz.isAgg356
 z70:=Tryz.sizeOf356
 v70:=Tryz.zeroValue356
 t76:=Tryz.underlying396
 a76:=Tryz.isAgg396
 z76:=Tryz.sizeOf396
 v76:=Tryz.zeroValue396
 t77:=Tryz.underlying397
 a77:=Tryz.isAgg397
 z77:=Tryz.sizeOf397
 v77:=Tryz.zeroValue397 }
def Tryz.laysSortD_ren:Go.Shelf.Ren:=⟨fun | 6=>143 | 15=>159 | 14=>211 | 28=>231 | 29=>232 | 20=>288 | 21=>289 | 22=>290 | 23=>291 | 24=>292 | 25=>293 | 26=>294 | 27=>295 | 46=>350 | 47=>305 | 48=>306 | 49=>351 | 50=>352 | 57=>390 | n=>n,fun | 22=>34 | 24=>25 | 25=>97 | 3=>3 | 39=>209 | 0=>0 | 53=>205 | 55=>270 | 4=>4 | 46=>291 | 45=>290 | 50=>100 | 5=>5 | 9=>9 | 66=>352 | 70=>356 | 76=>396 | 77=>397 | n=>n,fun | n=>n⟩
theorem Tryz.laysSortD:Go.Proofs.SlLaysF0.n6 Tryz.prog Tryz.laysSortD_ren:={
 mixed:=by kernel_rfl
 f6:=⟨Tryz.f143.name,by decide,Tryz.func143.trans (congrArg some (by kernel_rfl))⟩
 f14:=⟨Tryz.f211.name,by decide,Tryz.func211.trans (congrArg some (by kernel_rfl))⟩
 f15:=Tryz.func159.trans (congrArg some (by kernel_rfl))
 f20:=⟨Tryz.f288.name,by decide,Tryz.func288.trans (congrArg some (by kernel_rfl))⟩
 f21:=⟨Tryz.f289.name,by decide,Tryz.func289.trans (congrArg some (by kernel_rfl))⟩
 f22:=⟨Tryz.f290.name,by decide,Tryz.func290.trans (congrArg some (by kernel_rfl))⟩
 f23:=⟨Tryz.f291.name,by decide,Tryz.func291.trans (congrArg some (by kernel_rfl))⟩
 f24:=⟨Tryz.f292.name,by decide,Tryz.func292.trans (congrArg some (by kernel_rfl))⟩
 f25:=⟨Tryz.f293.name,by decide,Tryz.func293.trans (congrArg some (by kernel_rfl))⟩
 f26:=⟨Tryz.f294.name,by decide,Tryz.func294.trans (congrArg some (by kernel_rfl))⟩
 f27:=⟨Tryz.f295.name,by decide,Tryz.func295.trans (congrArg some (by kernel_rfl))⟩
 f28:=Tryz.func231.trans (congrArg some (by kernel_rfl))
 f29:=Tryz.func232.trans (congrArg some (by kernel_rfl))
 f46:=⟨Tryz.f350.name,by decide,Tryz.func350.trans (congrArg some (by kernel_rfl))⟩
 f47:=Tryz.func305.trans (congrArg some (by kernel_rfl))
 f48:=Tryz.func306.trans (congrArg some (by kernel_rfl))
 f49:=⟨Tryz.f351.name,by decide,Tryz.func351.trans (congrArg some (by kernel_rfl))⟩
 f50:=⟨Tryz.f352.name,by decide,Tryz.func352.trans (congrArg some (by kernel_rfl))⟩
 f57:=⟨Tryz.f390.name,by decide,Tryz.func390.trans (congrArg some (by kernel_rfl))⟩
 t0:=Tryz.underlying0
 a0:=Tryz.isAgg0
 z0:=Tryz.sizeOf0
 v0:=Tryz.zeroValue0
 t3:=Tryz.underlying3
 a3:=Tryz.isAgg3
 z3:=Tryz.sizeOf3
 v3:=Tryz.zeroValue3
 t4:=Tryz.underlying4
 a4:=Tryz.isAgg4
 z4:=Tryz.sizeOf4
 v4:=Tryz.zeroValue4
 t5:=Tryz.underlying5
 a5:=Tryz.isAgg5
 z5:=Tryz.sizeOf5
 v5:=Tryz.zeroValue5
 t9:=Tryz.underlying9
 a9:=Tryz.isAgg9
 z9:=Tryz.sizeOf9
 v9:=Tryz.zeroValue9
 t22:=Tryz.underlying34
 a22:=Tryz.isAgg34
 z22:=Tryz.sizeOf34
 v22:=Tryz.zeroValue34
 t25:=Tryz.underlying97
 a25:=Tryz.isAgg97
 z25:=Tryz.sizeOf97
 v25:=Tryz.zeroValue97
 t39:=Tryz.underlying209
 a39:=Tryz.isAgg209
 z39:=Tryz.sizeOf209
 v39:=Tryz.zeroValue209
 t45:=Tryz.underlying290
 a45:=Tryz.isAgg290
 z45:=Tryz.sizeOf290
 v45:=Tryz.zeroValue290
 t46:=Tryz.underlying291
 a46:=Tryz.isAgg291
 z46:=Tryz.sizeOf291
 v46:=Tryz.zeroValue291
 t50:=Tryz.underlying100
 a50:=Tryz.isAgg100
 z50:=Tryz.sizeOf100
 v50:=Tryz.zeroValue100
 t53:=Tryz.underlying205
 a53:=Tryz.isAgg205
 z53:=Tryz.sizeOf205
 v53:=Tryz.zeroValue205
 t55:=Tryz.underlying270
 a55:=Tryz.isAgg270
 z55:=Tryz.sizeOf270
 v55:=Tryz.zeroValue270
 t66:=Tryz.underlying352
 a66:=Tryz.isAgg352
 z66:=Tryz.sizeOf352
 v66:=Tryz.zeroValue352
 t70:=Tryz.underlying356
 a70:=Tryz.isAgg356
 z70:=Tryz.sizeOf356
 v70:=Tryz.zeroValue356
 t76:=Tryz.underlying396
 a76:=Tryz.isAgg396
 z76:=Tryz.sizeOf396
 v76:=Tryz.zeroValue396
 t77:=Tryz.underlying397
 a77:=Tryz.isAgg397
 z77:=Tryz.sizeOf397
 v77:=Tryz.zeroValue397 }
end Go.Proofs
namespace Go.Proofs.Ev
open Go.Proofs Go.RowKit Go.Sort
variable {N:gH} {φ:fJ} {H:ae} {w w':World}
theorem bZ.keeps {n:Nat} (hs:w.heap.size≤w'.heap.size) (hk:∀(cb:Nat) (o:Obj),w.heap[cb]?=some o→w'.heap[cb]?=some o) (he:eY w w'):bZ φ n w φ n w':={
 env:=he
 le:=Nat.le_refl _
 size:=hs
 loc b _ L' hL:=⟨L',hL,Nat.le_refl _,fun _=>rfl⟩
 same cb o hc _:=hk cb o hc
 nolive cb _ hn:=hn
 loops cb r hc:=⟨r,hk cb _ hc⟩
 res:=rfl
 keep cb o _ hc:=hk cb o hc }
theorem HR.keeps (h:HR N φ H w) (hs:w.heap.size≤w'.heap.size) (hk:∀(cb:Nat) (o:Obj),w.heap[cb]?=some o→w'.heap[cb]?=some o) (he:eY w w'):HR N φ H w' :=
 h.later (bZ.keeps hs hk he) fun b L hL=>by
  have hlt:=(h.base b L hL).2
  rw [hk L.cb w.heap[L.cb] (Array.getElem?_eq_getElem hlt),Array.getElem?_eq_getElem hlt]
theorem A8 (k:Nat) (os:Array Obj):w.heap.size≤(grow (w.drewN k) os).heap.size∧∀(cb:Nat) (o:Obj),w.heap[cb]?=some o→(grow (w.drewN k) os).heap[cb]?=some o:=by
 refine ⟨by simp [grow,World.drewN],fun cb o h=>?_⟩
 have hlt:=(Array.getElem?_eq_some_iff.1 h).1
 show (w.heap++os)[cb]?=some o
 rw [Array.getElem?_append_left hlt];exact h
theorem F7 (n:Nat):Lib.decDigits n=kY n:=by
 induction n using Nat.strongRecOn with
 | _ n ih =>
  rw [Lib.decDigits,kY]
  by_cases h:n<10
  ·rw [dif_pos h,if_pos h]
  ·rw [dif_neg h,if_neg h,ih (n / 10) (by omega)]
theorem I4 (n:Int):Lib.itoa n=nd n:=by
 unfold Lib.itoa nd
 rw [F7,F7]
def kW (N:gH):Prop:=∀(φ:fJ) (w:World),Fq N φ w→Lib.TabIs Tryz.prog w "internal/strconv.uint64pow10" .u64 Lib.pow10Tab
def uu (_:Nat) (args:List AV) (H:ae):Option (AV×ae) :=
 match args with
 | [.int .i64 n]=>if -9223372036854775808≤n∧n≤9223372036854775807 then some (.str (nd n),H) else none
 | _=>none
theorem CL (hN:kW N):gL Tryz.prog N 156 uu:=by
 refine ⟨⟨_,Tryz.func156,rfl⟩,fun base args H v H' h φ w Vs hb hH ht=>?_⟩
 unfold uu at h
 split at h
 ·rename_i n
  split at h
  ·rename_i hn
   cases h
   obtain ⟨X,rfl,h1⟩:=qG ht
   cases h1
   have hc:=Tryz.strconv_Itoa n hn.1 hn.2 w (hN φ w hH.kept)
   refine (callsIn_wide.2 hc:CallsIn (Fw none) 0 _ _ _ _ _).mono ?_
   rintro e w' ⟨rfl,k,os,rfl⟩
   obtain ⟨g1,g2⟩:=A8 (w:=w) k os
   rw [I4]
   exact ⟨_,φ,rfl,.str _,hH.keeps g1 g2 .refl,bZ.keeps g1 g2 .refl,fun _ _=>rfl⟩
  ·cases h
 ·cases h
end Go.Proofs.Ev
namespace Go.Proofs.Ev
open Go.RowKit
variable {P:Program} {C:bD} {N:gH} {φ φ':fJ} {H H':ae} {w w':World} {n:Nat}
theorem xH {fn:Func} {tmps:Array Value} {R:Ending→World→Prop} {B:Nat}:∀{ds:List Deferred} {w:World},eZ B φ w ds→HR N φ H w→
 (∀w2,HR N φ H w2→mN φ H.length w φ H.length w2∧eY w w2→w2.heap.size=w.heap.size→(∀cb,cb<B→w2.heap[cb]?=w.heap[cb]?)→(∀(cb:Nat) (r:Loop),w.heap[cb]?=some (Obj.loop r)→w2.heap[cb]?=some (Obj.loop r))→∃v,(results fn tmps).run P w2=.ok v w2∧R (.returned v) w2)→
 LeavesInM (Fw none) 0 P fn tmps R ds .returning w:=by
 intro ds
 induction ds with
 | nil =>
  intro w _ hH hfin
  exact hfin w hH ⟨⟨Nat.le_refl _,Nat.le_refl _,fun _ _ L' h=>⟨L',h,Nat.le_refl _,fun _=>rfl⟩,fun _ _ _ _ h _=>h,fun _ _ h=>h⟩,.refl⟩ rfl (fun _ _=>rfl) (fun _ _ h=>h)
 | cons d ds ih =>
  intro w hm hH hfin
  cases hm with
  | cons hB hk hn hne h =>
   rename_i k
   refine ⟨by simp,.inl ⟨k,bA w k (.deferred none),rfl,run_takeDeferred hk,?_⟩⟩
   have hc:∀c T fr,Obj.deferred (some [])≠.cells c T fr:=by intro c T fr e;cases e
   have hx:mN φ H.length w φ H.length (bA w k (.deferred none)):=mN.putObj hk hc
   refine ih (h.put hne) (hH.putObj hk hc hn) fun w2 h1 ⟨h2,henv⟩ h3 h4 h5=>?_
   refine hfin w2 h1 ⟨⟨Nat.le_refl _,Nat.le_trans hx.size h2.size,fun b _ L' hL=>⟨L',hL,Nat.le_refl _,fun _=>rfl⟩,fun cb c T fr e e'=>h2.same cb c T fr (hx.same cb c T fr e e') e',fun _ _ e=>e⟩,henv⟩ (by rw [h3];simp) (fun cb hcb=>(h4 cb hcb).trans (bm (by omega))) (fun cb r e=>h5 cb r ((bm ?_).trans e))
   intro e2
   subst e2
   rw [hk] at e
   cases e
theorem Fa {args:List AV} {Vs:Array Value} (h:kF (fun v V=>RV φ n w v V) args Vs.toList) (m:Nat) :
 bG φ n w (args++List.replicate (m-args.length) (.tup [])) (Vs++Array.replicate (m-Vs.size) Go.undef):=by
 have hg:=h.get
 have hl:args.length=Vs.size:=by simpa using hg.1
 refine ⟨by simp [hl],fun t v ht=>?_⟩
 rcases Nat.lt_or_ge t args.length with h1 | h1
 ·rw [List.getElem?_append_left h1] at ht
  obtain ⟨V,h2,h3⟩:=hg.2 t v ht
  exact ⟨V,by rw [Array.getElem?_append_left (by omega)];simpa using h2,h3⟩
 ·rw [List.getElem?_append_right h1,List.getElem?_replicate] at ht
  split at ht
  ·rename_i h2
   cases ht
   refine ⟨Go.undef,?_,.tup rfl (fun j v V hj=>by simp at hj)⟩
   rw [Array.getElem?_append_right (by omega),Array.getElem?_replicate,if_pos (by omega)]
  ·cases ht
theorem xx (hS:C.Sound P N) {f:FuncId} {fn:Func} (hf:P.funcs[f]?=some fn) (hb:fn.body.isSome=true) (args:Array Value) (w:World):(callFunc f args).run P w=.ok (.enter f args) w:=by
 have h1:=hS.names f fn hf hb
 have h2:fn.body.isNone=false:=by cases h:fn.body<;>simp [h] at hb ⊢
 unfold callFunc
 simp only [Sem.run_bind,run_program,Result.andThen_ok,hf,h1,h2,Bool.false_eq_true,if_false,Sem.run_pure]
theorem IW {k:Nat} (hS:C.Sound P N) (hcode:qL P C N k):wU P C N (k+1):=by
 intro base f args H v H' h
 simp only [cx] at h
 cases hp:C.prim f with
 | some p =>
  rw [hp] at h
  obtain ⟨⟨fn,hf,hb⟩,h2⟩:=hS.prim f p hp
  refine ⟨xx hS hf hb,fun {φ w Vs} hbase hH hargs=>?_⟩
  exact h2 base args H v H' h φ w Vs hbase hH hargs
 | none =>
  rw [hp] at h
  simp only at h
  split at h
  ·rename_i fn hf
   split at h
   ·rename_i c hc
    refine ⟨xx hS hf (by rw [hc];rfl),fun {φ w Vs} hbase hH hargs=>?_⟩
    have hsl:=Fa hargs fn.ntmps
    have fin:∀(e:jC) (s':List AV) (H1:ae),(e=.normal∨e=.ret)→aP P C k base c (args++List.replicate (fn.ntmps-args.length) (.tup [])) H=some (e,s',H1)→(dM P H1 s' fn.results.toList).map (fun vs=>(i7 vs,H1))=some (v,H')→
     CallsIn (Fw none) 0 P f Vs w fun e w'=>∃V φ',e=.returned V∧RV φ' H'.length w' v V∧HR N φ' H' w'∧bZ φ H.length w φ' H'.length w'∧∀b,b<base→H'[b]?=H[b]?:=by
     intro e s' H1 he hrun hres
     obtain ⟨vs,hvs,hpk⟩:=Option.map_eq_some_iff.1 hres
     cases hpk
     refine callsIn_of_wp_marks hf hc trivial ?_
     refine hcode base c _ H e s' H' hrun (a:={ tmps:=Vs++Array.replicate (fn.ntmps-Vs.size) Go.undef,defers:=[] }) (B:=w.heap.size) (r:=none) hbase hH hsl .nil (Nat.le_refl _) (fun l hl=>by cases hl) _ ?_
     intro a' w' φ' h1 hx hs hm hlow
     have key:LeavesInM (Fw none) 0 P fn a'.tmps (fun e w'=>∃V φ',e=.returned V∧RV φ' H'.length w' (i7 vs) V∧HR N φ' H' w'∧bZ φ H.length w φ' H'.length w'∧∀b,b<base→H'[b]?=H[b]?) a'.defers .returning w':=by
      refine xH hm h1 fun w2 g1 ⟨g2,ge⟩ g3 g4 g5=>?_
      obtain ⟨V,r1,r2⟩:=vo (fn:=fn) g1 (hs.monoC g2) hvs
      refine ⟨V,r1,V,φ',rfl,r2,g1,⟨hx.le,by rw [g3];exact hx.size,hx.loc,fun cb o hc hn=>?_,hx.nolive,fun cb r hr=>?_,hx.res,fun cb o hr hc=>?_,hx.env.trans ge⟩,hlow⟩
      ·rw [g4 cb (Array.getElem?_eq_some_iff.1 hc).1];exact hx.same cb o hc hn
      ·obtain ⟨r',hr'⟩:=hx.loops cb r hr
       exact ⟨r',g5 cb r' hr'⟩
      ·rw [g4 cb (Array.getElem?_eq_some_iff.1 hc).1];exact hx.keep cb o hr hc
     rcases he with rfl | rfl
     ·exact key
     ·exact key
    split at h
    ·rename_i s' H1 hrun;exact fin .normal s' H1 (.inl rfl) hrun h
    ·rename_i s' H1 hrun;exact fin .ret s' H1 (.inr rfl) hrun h
    ·cases h
   ·cases h
  ·cases h
theorem HR.empty (h:HR N φ H w):HR N (cF φ 0) [] w:={
 low:=h.low
 kept:=fun cb c T fr hc=>by
  obtain ⟨h1,h2⟩:=h.kept cb c T fr hc
  exact ⟨h1,fun b L hL=>by simp [cF] at hL,h2.2⟩
 dead b _:=by simp [cF]
 base b L hL:=by simp [cF] at hL
 inj b b' L L' hL:=by simp [cF] at hL
 resn b L hL:=by simp [cF] at hL
 ress:=h.ress
 rows b esz g rs hb:=by simp at hb
 map b es hb:=by simp at hb
 loop b r p s ps a c hb:=by simp at hb
 it b m k st hb:=by simp at hb }
theorem mL:∀{ps:List Tmp} {args:List AV} {Vs:List Value} {slots:List AV} {tmps:Array Value},kF (fun v V=>RV φ n w v V) args Vs→bG φ n w slots tmps→
 bG φ n w (dB ps args slots) ((ps.zip Vs).foldl (fun t (p,v)=>t.setIfInBounds p v) tmps)
 | [],args,Vs,slots,tmps,_,hs=>by simpa [dB] using hs
 | p::ps,[],Vs,slots,tmps,h,hs=>by cases h;simpa [dB] using hs
 | p::ps,v::args,Vs,slots,tmps,h,hs=>by
  cases h with
  | cons h1 h2 =>
   simp only [dB,List.zip_cons_cons,List.foldl_cons]
   exact mL h2 (wC (a:={ tmps:=tmps,defers:=[] }) (dst:=some p) hs h1)
theorem IG {k:Nat} (hfunc:wU P C N k) (hcode:qL P C N k):Az P C N (k+1):=by
 intro base f args H v H' h φ w a r F Vs hbase hH hF hargs o next Q hn
 unfold dA at h
 split at h
 ·rename_i f caps
  cases hF with
  | fn hl hcaps =>
   rename_i Cs
   have hall:kF (fun v V=>RV φ H.length w v V) (args++caps) (Vs++Cs).toList:=by
    have h1:=hargs.get
    refine kF.of_get (by simp [h1.1,hl]) fun i x y hx hy=>?_
    rw [Array.toList_append] at hy
    rcases Nat.lt_or_ge i args.length with hlt | hge
    ·rw [List.getElem?_append_left hlt] at hx
     rw [List.getElem?_append_left (by rw [←h1.1];exact hlt)] at hy
     obtain ⟨V,h2,h3⟩:=h1.2 i x hx
     rw [h2] at hy;cases hy;exact h3
    ·rw [List.getElem?_append_right hge] at hx
     rw [List.getElem?_append_right (by rw [←h1.1];exact hge),←h1.1] at hy
     exact hcaps _ x y hx (by simpa using hy)
   have hinv:∀(he:∀args w,(callFunc f args).run P w=.ok (.enter f args) w),(do let d ←Deferred.ofValue (.func (.func f) #[] Cs) Vs;invoke d.target d.args:Sem Next).run P w=.ok (.enter f (Vs++Cs)) w:=by
    intro he
    simp [Deferred.ofValue,invoke,he]
   split at h
   ·cases hf:cx P C k H.length f (args++caps) H with
    | none=>rw [hf] at h;cases h
    | some vh =>
     obtain ⟨v1,H1⟩:=vh
     rw [hf] at h
     simp only at h
     cases hfr:aI H1 H.length 3 v1 with
     | none=>rw [hfr] at h;cases h
     | some v2 =>
      rw [hfr] at h;cases h
      obtain ⟨he,hc⟩:=hfunc H.length f _ H v1 H1 hf
      rw [hinv he]
      refine ⟨fun hd=>by simp [Fw,Fence.wide] at hd,jp ((hc (Nat.le_refl _) hH hall).mono ?_)⟩
      rintro e w' ⟨V,φ',rfl,hv,h1,hx,hlow⟩
      exact hn V w' (cF φ' H.length) (eL h1 3 hfr hv) (hH.cut h1 hlow) hx.cut (fun _ _=>rfl)
   ·split at h
    ·cases ha:(args++caps).mapM (aI H 0 6) with
     | none=>rw [ha] at h;cases h
     | some aS =>
      rw [ha] at h
      simp only at h
      cases hf:cx P C k 0 f aS [] with
      | none=>rw [hf] at h;cases h
      | some vh =>
       obtain ⟨v1,H1⟩:=vh
       rw [hf] at h
       simp only at h
       split at h
       ·rename_i hfl
        cases h
        obtain ⟨he,hc⟩:=hfunc 0 f aS [] _ _ hf
        rw [hinv he]
        obtain ⟨ml,mg⟩:=iP ha
        have hall0:kF (fun v V=>RV (cF φ 0) 0 w v V) aS (Vs++Cs).toList:=by
         have h1:=hall.get
         refine kF.of_get (by rw [ml];exact h1.1) fun i x y hx hy=>?_
         obtain ⟨u,hu,hfu⟩:=mg i x hx
         obtain ⟨V,h2,h3⟩:=h1.2 i u hu
         rw [h2] at hy;cases hy
         exact eL hH 6 hfu h3
        refine ⟨fun hd=>by simp [Fw,Fence.wide] at hd,jp ((hc (Nat.le_refl _) hH.empty hall0).mono ?_)⟩
        rintro e w' ⟨V,φ',rfl,hv,h1,hx,hlow⟩
        have pres:∀(cb:Nat) (o:Obj),w.heap[cb]?=some o→w'.heap[cb]?=some o:=by
         intro cb o ho
         by_cases hr:φ.res cb
         ·exact hx.keep cb o hr ho
         ·exact hx.same cb o ho ⟨fun b L hL=>by simp [cF] at hL,hr⟩
        have hx2:bZ φ H.length w φ H.length w' :=
         ⟨Nat.le_refl _,hx.size,fun _ _ L' h=>⟨L',h,Nat.le_refl _,fun _=>rfl⟩,fun cb o hc _=>pres cb o hc,fun _ _ h=>h,fun cb r h=>⟨r,pres cb _ h⟩,rfl,fun cb o _ h=>pres cb o h,hx.env⟩
        refine hn V w' φ (hv.flat hfl) (hH.later hx2 fun b L hL=>?_) hx2 (fun _ _=>rfl)
        have hlt:=(hH.base b L hL).2
        rw [Array.getElem?_eq_getElem hlt,pres L.cb _ (Array.getElem?_eq_getElem hlt)]
       ·cases h
    ·obtain ⟨he,hc⟩:=hfunc base f _ H v H' h
     rw [hinv he]
     refine ⟨fun hd=>by simp [Fw,Fence.wide] at hd,jp ((hc hbase hH hall).mono ?_)⟩
     rintro e w' ⟨V,φ',rfl,hv,h1,hx,hlow⟩
     exact hn V w' φ' hv h1 hx hlow
 ·rename_i b
  split at h
  ·rename_i slots ps assign body hblk
   split at h
   ·rename_i hc
    obtain ⟨hb0,hpl⟩:=hc
    obtain ⟨L,rec,h1,h2,h3,h4,h5,h6,h7,h8,h9⟩:=hH.loop _ _ _ _ _ _ _ hblk
    cases hF with
    | yld hb hh =>
     have:=hh L h1 h2
     subst this
     have hsz:Vs.size=rec.params.size:=by
      have e1:=hargs.get.1
      have e2:rec.params.size=ps.length:=by rw [←h6];simp
      rw [e2,←hpl,e1];simp
     have hrun:(do let d ←Deferred.ofValue (.func (.yield L.cb) #[] #[]) Vs;invoke d.target d.args:Sem Next).run P w=.ok (.round L.cb rec.fn ((rec.params.zip Vs).foldl (fun tmps (t,a)=>tmps.setIfInBounds t a) rec.tmps) rec.assign rec.body) w:=by
      have:=run_yield (P:=P) (args:=Vs) h3 hsz
      simpa [Deferred.ofValue,invoke] using this
     rw [hrun]
     refine ⟨fun hd=>by simp [Fw,Fence.wide] at hd,?_⟩
     split at h
     ·rename_i s1 H1 hasg
      split at h
      ·rename_i l1 p1 a1 b1 hblk1
       split at h
       ·rename_i e s2 H3 hbody
        split at h
        ·rename_i l3 p3 a3 b3 hblk3
         cases h
         subst h7
         subst h8
         have hsl:bG φ H.length w (dB ps args slots) ((rec.params.zip Vs).foldl (fun tmps (t,a)=>tmps.setIfInBounds t a) rec.tmps):=by
          have:=mL (ps:=ps) hargs h9
          rw [←h6] at this ⊢
          rw [←Array.foldl_toList,Array.toList_zip]
          exact this
         refine roundIn_of_wpIn trivial ?_
         refine hcode base _ _ H .normal s1 H1 hasg (a:={ tmps:=_,defers:=[] }) (B:=0) (r:=some L.cb) hbase hH hsl .nil (Nat.zero_le _) (fun l hl=>by cases hl;exact ⟨rec,h3⟩) _ ?_
         intro aa wa φa ha xa sa ma la
         obtain ⟨La,ra,g1,g2,g3,g4,g5,g6,g7,g8,g9⟩:=ha.loop _ _ _ _ _ _ _ hblk1
         have hcb:La.cb=L.cb:=by
          obtain ⟨L0,e1,e2,e3⟩:=xa.loc b hb La g1
          rw [h1] at e1;cases e1
          rw [e3 (by omega)]
         have hst:ra.state=.ready:=by simpa using g4
         have hput:HR N φa (H1.set b (.loop false none l1 p1 a1 b1)) (bA wa La.cb (.loop { ra with state:=.busy })) :=
          ha.put g1 _ _ (fun _ _=>⟨_,rfl⟩) (by simp) (by simp) (by simp) (by intro _ _ _ _ _ _ e;cases e;exact ⟨_,g2,rfl,by simp,g5,g6,g7,g8,g9⟩)
         have hext:bZ φa H1.length wa φa (H1.set b (.loop false none l1 p1 a1 b1)).length (bA wa La.cb (.loop { ra with state:=.busy })):=by simpa using bZ.put ha g1 _ (fun _ _=>⟨_,rfl⟩)
         refine ⟨bA wa La.cb (.loop { ra with state:=.busy }),by rw [←hcb];exact run_beginRound g3 hst,?_⟩
         refine hcode base _ _ _ e s2 H3 hbody (a:=aa) (B:=0) (r:=some L.cb) (by simpa using Nat.le_trans hbase xa.le) hput (sa.mono hext) (ma.mono hext) (Nat.zero_le _) (fun l hl=>by cases hl;rw [←hcb];exact ⟨_,cI (Array.getElem?_eq_some_iff.1 g3).1⟩) _ ?_
         intro ab wb φb hb' xb _ _ lb
         obtain ⟨Lb,rb,k1,k2,k3,k4,k5,k6,k7,k8,k9⟩:=hb'.loop _ _ _ _ _ _ _ hblk3
         have hcb2:Lb.cb=L.cb:=by
          have hb1:b<(H1.set b (.loop false none l1 p1 a1 b1)).length:=by simpa using Nat.lt_of_lt_of_le hb xa.le
          obtain ⟨L0,e1,e2,e3⟩:=xb.loc b hb1 Lb k1
          rw [g1] at e1;cases e1
          rw [←e3 (by omega)];exact hcb
         have fin:∀(jump:Option Code),jump=e.code→∃v' w',(Instr.endRound L.cb jump).run P wb=.ok v' w'∧next (a.put o.dst v') w':=by
          intro jump hj
          subst hj
          refine ⟨_,_,by rw [←hcb2];exact run_endRound e.code k3,?_⟩
          have hput3:HR N φb (H3.set b (.loop e.code.isNone e.code l3 p3 a3 b3)) (bA wb Lb.cb (.loop { rb with state:=if e.code.isNone then .ready else .done,pending:=e.code })) :=
           hb'.put k1 _ _ (fun _ _=>⟨_,rfl⟩) (by simp) (by simp) (by simp) (by
            intro _ _ _ _ _ _ e';cases e'
            refine ⟨_,k2,rfl,?_,rfl,k6,k7,k8,k9⟩
            cases hn:e.code<;>simp)
          have hext3:bZ φb H3.length wb φb (H3.set b (.loop e.code.isNone e.code l3 p3 a3 b3)).length (bA wb Lb.cb (.loop { rb with state:=if e.code.isNone then .ready else .done,pending:=e.code })):=by simpa using bZ.put hb' k1 _ (fun _ _=>⟨_,rfl⟩)
          refine hn (.bool e.code.isNone) _ φb (.bool _) hput3 (((xa.trans hext).trans xb).trans hext3) fun b' hb''=>?_
          have hne:b≠b':=by omega
          rw [List.getElem?_set_ne hne,lb b' hb'',List.getElem?_set_ne hne,la b' hb'']
         cases e with
         | normal=>exact fin none rfl
         | ret=>exact fin (some .ret) rfl
         | exit id=>exact fin (some (.exit id)) rfl
        ·cases h
       ·cases h
      ·cases h
     ·cases h
   ·cases h
  ·cases h
 ·cases h
end Go.Proofs.Ev
