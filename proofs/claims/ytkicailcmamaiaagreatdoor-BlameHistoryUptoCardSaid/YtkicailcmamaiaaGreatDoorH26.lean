/- Part 26 of the proof that quiltlaw38.BlameHistory returns true: no statement of its own. -/
import Derived.Test.YtkicailcmamaiaaGreatDoorH25
import Derived.Test.YtkicailcmamaiaaGreatDoorH24
set_option linter.all false
namespace Go.Proofs.Ev
open Go.Proofs
inductive lW (F:aC→Option aG) (file:aC):aG→Prop
 | own (x:aG) (hk:x.kind≠7) (hf:aB x.file file=true):lW F file x
 | back (x:aG) (o:aC) (y:aG) (hk:x.kind=7) (ho:o∈x.over) (hy:F o=some y) (hc:lW F file y):lW F file x
theorem IK {F G:aC→Option aG} (h:∀o,(F o).map kj=(G o).map kj) {file:aC} {x:aG} (hc:lW F file x):∀y,kj x=kj y→lW G file y:=by
 have pk:∀{x y:aG},kj x=kj y→x.kind=y.kind∧x.file=y.file∧x.over=y.over:=fun {x y} h=>⟨(congrArg (·.kind) h:(kj x).kind=(kj y).kind),(congrArg (·.file) h:(kj x).file=(kj y).file),(congrArg (·.over) h:(kj x).over=(kj y).over)⟩
 induction hc with
 | own x hk hf =>
  intro y hy
  obtain ⟨h1,h2,_⟩:=pk hy
  exact .own y (h1▸hk) (h2▸hf)
 | back x o z hk ho hz _ ih =>
  intro y hy
  obtain ⟨h1,_,h3⟩:=pk hy
  have h4:=h o
  rw [hz] at h4
  cases hg:G o with
  | none=>rw [hg] at h4;cases h4
  | some w =>
   rw [hg] at h4
   exact .back y o w (h1▸hk) (h3▸ho) hg (ih w (Option.some.inj h4))
structure oN where
 l:List aG
 i:Nat
 met:SK×List aC
 out:SK×List aC
def iQ (F:aC→Option aG) (met:List aC) (l:List aG) (o:aC):List aG :=
 match F o with
 | some y=>if dj met y.id then l else l++[y]
 | none=>l
def ja (F:aC→Option aG) (a:oN):oN :=
 match a.l[a.i]? with
 | none=>a
 | some x =>
  if dj a.met.2 x.id then ⟨a.l,a.i+1,a.met,a.out⟩
  else if x.kind=7 then ⟨x.over.foldl (iQ F (cd a.met x.id).2) a.l,a.i+1,cd a.met x.id,a.out⟩
  else ⟨a.l,a.i+1,cd a.met x.id,cd a.out x.file⟩
def cD (F:aC→Option aG):Nat→oN→oN
 | 0,a=>a
 | n+1,a=>ja F (cD F n a)
theorem re (F:aC→Option aG):∀(n:Nat) (a:oN),cD F (n+1) a=cD F n (ja F a)
 | 0,_=>rfl
 | n+1,a=>by rw [cD,re F n a];rfl
theorem lB {l:List aC} {z:aC}:dj l z=true↔z∈l:=by
 unfold dj
 rw [List.any_eq_true]
 constructor
 ·rintro ⟨x,h1,h2⟩;rw [←cj h2];exact h1
 ·exact fun h=>⟨z,h,by simp [aB]⟩
theorem lH (F:aC→Option aG) (met:List aC):∀(os:List aC) (l:List aG),∃m,os.foldl (iQ F met) l=l++m∧m.length≤os.length∧(∀y∈m,∃o∈os,F o=some y)∧∀o∈os,∀y,F o=some y→y.id∈met∨y∈m
 | [],l=>⟨[],by simp⟩
 | o::os,l=>by
  obtain ⟨m0,h0,h1,h2,h3⟩:∃m0,iQ F met l o=l++m0∧m0.length≤1∧(∀y∈m0,F o=some y)∧∀y,F o=some y→y.id∈met∨y∈m0:=by
   unfold iQ
   cases hF:F o with
   | none=>exact ⟨[],by simp⟩
   | some y =>
    by_cases hy:dj met y.id=true
    ·refine ⟨[],by simp [hy],by simp,by simp,fun z hz=>?_⟩
     cases hz;exact .inl (lB.1 hy)
    ·refine ⟨[y],by simp [hy],by simp,by simp,fun z hz=>?_⟩
     cases hz;exact .inr (by simp)
  obtain ⟨m,g0,g1,g2,g3⟩:=lH F met os (l++m0)
  refine ⟨m0++m,?_,by simp;omega,?_,?_⟩
  ·rw [List.foldl_cons,h0,g0,List.append_assoc]
  ·intro y hy
   rcases List.mem_append.1 hy with hy | hy
   ·exact ⟨o,by simp,h2 y hy⟩
   ·obtain ⟨o',ho,hy⟩:=g2 y hy
    exact ⟨o',by simp [ho],hy⟩
  ·intro o' ho y hy
   rcases List.mem_cons.1 ho with rfl | ho
   ·rcases h3 y hy with h | h
    ·exact .inl h
    ·exact .inr (by simp [h])
   ·rcases g3 o' ho y hy with h | h
    ·exact .inl h
    ·exact .inr (by simp [h])
structure wW (U:List aG) (F:aC→Option aG) (l0:List aG) (a:oN):Prop where
 le:a.i≤a.l.length
 pre:∃m,a.l=l0++m
 mem:∀x∈a.l,x∈U
 sm:gB a.met.2
 so:gB a.out.2
 met1:∀z,z∈a.met.2↔∃x∈a.l.take a.i,x.id=z
 sound:∀file,(∃x∈a.l,lW F file x)→∃x∈l0,lW F file x
 outS:∀z∈a.out.2,∃x∈a.l,x.kind≠7∧x.file=z
 done:∀x∈a.l.take a.i,(x.kind≠7→x.file∈a.out.2)∧(x.kind=7→∀o∈x.over,∀y,F o=some y→y∈a.l)
theorem Km {U:List aG} {F:aC→Option aG} {l0:List aG} (h:∀x∈l0,x∈U):wW U F l0 ⟨l0,0,(.exact,[]),(.exact,[])⟩ :=
 ⟨Nat.zero_le _,⟨[],by simp⟩,h,List.Pairwise.nil,List.Pairwise.nil,by simp,fun _ h=>h,by simp,by simp⟩
theorem Dg {U:List aG} {F:aC→Option aG} {l0:List aG} (hU:∀x∈U,F x.id=some x) (hF:∀o y,F o=some y→y∈U∧y.id=o) {a:oN} (W:wW U F l0 a):wW U F l0 (ja F a):=by
 unfold ja
 cases hx:a.l[a.i]? with
 | none=>exact W
 | some x =>
  have hi:a.i<a.l.length:=(List.getElem?_eq_some_iff.1 hx).1
  have hxl:x∈a.l:=List.mem_of_getElem? hx
  have hxU:=W.mem x hxl
  have tk:a.l.take (a.i+1)=a.l.take a.i++[x]:=by rw [List.take_add_one,hx];rfl
  have uniq:∀y∈U,y.id=x.id→y=x:=fun y hy he=>by
   have h1:=hU y hy
   rw [he,hU x hxU] at h1
   exact (Option.some.inj h1).symm
  by_cases hm:dj a.met.2 x.id=true
  ·simp only [hm,if_true]
   have hxt:x∈a.l.take a.i:=by
    obtain ⟨y,hy,he⟩:=(W.met1 x.id).1 (lB.1 hm)
    rw [←uniq y (W.mem y (List.mem_of_mem_take hy)) he];exact hy
   have hsub:∀y,y∈a.l.take (a.i+1)↔y∈a.l.take a.i:=fun y=>by
    rw [tk,List.mem_append,List.mem_singleton]
    exact ⟨fun h=>h.elim id fun h=>h▸hxt,.inl⟩
   refine ⟨by simp;omega,W.pre,W.mem,W.sm,W.so,fun z=>?_,W.sound,W.outS,fun y hy=>W.done y ((hsub y).1 hy)⟩
   rw [W.met1 z]
   exact ⟨fun ⟨y,h1,h2⟩=>⟨y,(hsub y).2 h1,h2⟩,fun ⟨y,h1,h2⟩=>⟨y,(hsub y).1 h1,h2⟩⟩
  simp only [hm,Bool.false_eq_true,if_false]
  obtain ⟨im1,im2⟩:=kQ (d:=x.id) W.sm
  have metN:∀z,z∈(cd a.met x.id).2↔∃y∈a.l.take (a.i+1),y.id=z:=fun z=>by
   rw [im2,W.met1,tk]
   constructor
   ·rintro (⟨y,h1,h2⟩ | rfl)
    ·exact ⟨y,by simp [h1],h2⟩
    ·exact ⟨x,by simp,rfl⟩
   ·rintro ⟨y,h1,h2⟩
    rcases List.mem_append.1 h1 with h1 | h1
    ·exact .inl ⟨y,h1,h2⟩
    ·rw [List.mem_singleton.1 h1] at h2;exact .inr h2.symm
  by_cases hk:x.kind=7
  ·simp only [hk,if_true]
   obtain ⟨m,g0,g1,g2,g3⟩:=lH F (cd a.met x.id).2 x.over a.l
   rw [g0]
   have tk2:(a.l++m).take (a.i+1)=a.l.take a.i++[x]:=by rw [List.take_append_of_le_length (by omega),tk]
   have hmU:∀y∈m,y∈U:=fun y hy=>by obtain ⟨o,_,h⟩:=g2 y hy;exact (hF o y h).1
   refine ⟨by simp;omega,?_,?_,im1,W.so,fun z=>?_,fun file=>?_,?_,?_⟩
   ·obtain ⟨m1,h1⟩:=W.pre
    exact ⟨m1++m,by simp [h1]⟩
   ·intro y hy
    rcases List.mem_append.1 hy with hy | hy
    ·exact W.mem y hy
    ·exact hmU y hy
   ·rw [metN,tk,←tk2]
   ·rintro ⟨y,hy,hc⟩
    refine W.sound file ?_
    rcases List.mem_append.1 hy with hy | hy
    ·exact ⟨y,hy,hc⟩
    ·obtain ⟨o,ho,h⟩:=g2 y hy
     exact ⟨x,hxl,.back x o y hk ho h hc⟩
   ·intro z hz
    obtain ⟨y,h1,h2⟩:=W.outS z hz
    exact ⟨y,by simp [h1],h2⟩
   ·intro y hy
    rw [tk2] at hy
    rcases List.mem_append.1 hy with hy | hy
    ·obtain ⟨h1,h2⟩:=W.done y hy
     exact ⟨h1,fun hk o ho z hz=>List.mem_append.2 (.inl (h2 hk o ho z hz))⟩
    ·rw [List.mem_singleton.1 hy]
     refine ⟨fun h=>absurd hk h,fun _ o ho z hz=>?_⟩
     rcases g3 o ho z hz with h | h
     ·obtain ⟨w,h1,h2⟩:=(metN z.id).1 h
      have hwl:w∈a.l:=List.mem_of_mem_take h1
      have h3:=hU w (W.mem w hwl)
      rw [h2,hU z (hF o z hz).1] at h3
      rw [Option.some.inj h3]
      exact List.mem_append.2 (.inl hwl)
     ·exact List.mem_append.2 (.inr h)
  ·simp only [hk,if_false]
   obtain ⟨io1,io2⟩:=kQ (d:=x.file) W.so
   refine ⟨by simp;omega,W.pre,W.mem,im1,io1,metN,W.sound,?_,?_⟩
   ·intro z hz
    rcases (io2 z).1 hz with h | rfl
    ·exact W.outS z h
    ·exact ⟨x,hxl,hk,rfl⟩
   ·intro y hy
    rw [tk] at hy
    rcases List.mem_append.1 hy with hy | hy
    ·obtain ⟨h1,h2⟩:=W.done y hy
     exact ⟨fun h=>(io2 _).2 (.inl (h1 h)),h2⟩
    ·rw [List.mem_singleton.1 hy]
     exact ⟨fun _=>(io2 _).2 (.inr rfl),fun h=>absurd h hk⟩
theorem Df {U:List aG} {F:aC→Option aG} {l0:List aG} (hU:∀x∈U,F x.id=some x) (hF:∀o y,F o=some y→y∈U∧y.id=o) {a:oN} (W:wW U F l0 a):∀n,wW U F l0 (cD F n a)
 | 0=>W
 | n+1=>Dg hU hF (Df hU hF W n)
def Cq (U:List aG) (met:List aC):Nat:=(U.filter fun x=>!dj met x.id).length
def Jf (U:List aG) (B:Nat) (a:oN):Nat:=Cq U a.met.2*(B+1)+(a.l.length-a.i)
theorem Ke {U:List aG} {a:SK×List aC} (hs:gB a.2) {x:aG} (hx:x∈U) (hm:¬dj a.2 x.id=true):Cq U (cd a x.id).2<Cq U a.2:=by
 obtain ⟨_,i2⟩:=kQ (d:=x.id) hs
 unfold Cq
 have h1:(U.filter fun y=>!dj (cd a x.id).2 y.id)=(U.filter fun y=>!dj a.2 y.id).filter fun y=>!dj (cd a x.id).2 y.id:=by
  rw [List.filter_filter]
  refine List.filter_congr fun y _=>?_
  cases h2:dj a.2 y.id with
  | false=>simp
  | true =>
   have:dj (cd a x.id).2 y.id=true:=lB.2 ((i2 _).2 (.inl (lB.1 h2)))
   simp [this]
 have h3:(U.filter fun y=>!dj (cd a x.id).2 y.id).Sublist (U.filter fun y=>!dj a.2 y.id):=by rw [h1];exact List.filter_sublist
 rcases Nat.lt_or_eq_of_le h3.length_le with h | h
 ·exact h
 ·have h4:=h3.eq_of_length h
  have h5:x∈U.filter fun y=>!dj a.2 y.id:=List.mem_filter.2 ⟨hx,by simpa using hm⟩
  rw [←h4] at h5
  have h6:=(List.mem_filter.1 h5).2
  have:dj (cd a x.id).2 x.id=true:=lB.2 ((i2 _).2 (.inr rfl))
  rw [this] at h6
  cases h6
theorem JZ {U:List aG} {F:aC→Option aG} {l0:List aG} {B:Nat} (hB:∀x∈U,x.over.length≤B) {a:oN} (W:wW U F l0 a) (hi:a.i<a.l.length):Jf U B (ja F a)<Jf U B a∧(ja F a).i=a.i+1:=by
 unfold ja
 have hx:a.l[a.i]?=some a.l[a.i]:=List.getElem?_eq_getElem hi
 rw [hx]
 simp only
 have hxU:=W.mem _ (List.getElem_mem hi)
 generalize a.l[a.i]=x at hxU
 by_cases hm:dj a.met.2 x.id=true
 ·simp only [hm,if_true,Jf,and_true];omega
 simp only [hm,Bool.false_eq_true,if_false]
 have h1:=Ke W.sm hxU hm
 have h2:Cq U (cd a.met x.id).2*(B+1)+(B+1)≤Cq U a.met.2*(B+1):=by
  rw [←Nat.succ_mul];exact Nat.mul_le_mul_right _ h1
 by_cases hk:x.kind=7
 ·simp only [hk,if_true]
  obtain ⟨m,g0,g1,_⟩:=lH F (cd a.met x.id).2 x.over a.l
  rw [g0]
  have h3:=hB x hxU
  refine ⟨?_,by trivial⟩
  simp only [Jf,List.length_append]
  omega
 ·simp only [hk,if_false]
  refine ⟨?_,by trivial⟩
  simp only [Jf]
  omega
theorem Ge {U:List aG} {F:aC→Option aG} {l0:List aG} {B:Nat} (hU:∀x∈U,F x.id=some x) (hF:∀o y,F o=some y→y∈U∧y.id=o) (hB:∀x∈U,x.over.length≤B):∀(m:Nat) (a:oN),wW U F l0 a→Jf U B a≤m→∃n,n≤m∧(cD F n a).i=(cD F n a).l.length∧∀j,j≤n→(cD F j a).l.length≤a.i+m∧(cD F j a).i≤(cD F j a).l.length∧(j<n→(cD F j a).i<(cD F j a).l.length)
 | m,a,W,h=>by
  by_cases hi:a.i<a.l.length
  ·obtain ⟨h1,h2⟩:=JZ hB W hi
   cases m with
   | zero=>omega
   | succ m =>
    obtain ⟨n,n1,n2,n3⟩:=Ge hU hF hB m (ja F a) (Dg hU hF W) (by omega)
    refine ⟨n+1,by omega,by rw [re];exact n2,fun j hj=>?_⟩
    cases j with
    | zero=>exact ⟨by rw [cD];unfold Jf at h;omega,W.le,fun _=>hi⟩
    | succ j =>
     obtain ⟨k1,k2,k3⟩:=n3 j (by omega)
     rw [re]
     exact ⟨by omega,k2,fun h=>k3 (by omega)⟩
  ·have:=W.le
   refine ⟨0,Nat.zero_le _,by rw [cD];omega,fun j hj=>?_⟩
   have:j=0:=by omega
   subst this
   exact ⟨by rw [cD];unfold Jf at h;omega,W.le,fun h=>by omega⟩
theorem My {U:List aG} {F:aC→Option aG} {l0:List aG} {a:oN} (W:wW U F l0 a) (he:a.i=a.l.length) (file:aC):dj a.out.2 file=true↔∃x∈l0,lW F file x:=by
 have ht:a.l.take a.i=a.l:=by rw [he,List.take_length]
 rw [lB]
 constructor
 ·intro h
  obtain ⟨x,h1,h2,h3⟩:=W.outS file h
  exact W.sound file ⟨x,h1,.own x h2 (by rw [h3];simp [aB])⟩
 ·rintro ⟨x,hx,hc⟩
  have hxl:x∈a.l:=by obtain ⟨m,h⟩:=W.pre;rw [h];simp [hx]
  clear hx
  induction hc with
  | own x hk hf =>
   have h1:=(W.done x (by rw [ht];exact hxl)).1 hk
   rw [cj hf] at h1
   exact h1
  | back x o y hk ho hy _ ih=>exact ih ((W.done x (by rw [ht];exact hxl)).2 hk o ho y hy)
end Go.Proofs.Ev
namespace Go.Proofs.Ev
open Go.Proofs
variable {σ:aZ}
theorem zv (z d:aC) (b:Bool):∀T:List (aC×Bool),iy (qH T d b) z=if aB d z then b else iy T z
 | []=>by simp [qH,iy]
 | x::T=>by
  rw [qH]
  cases hx:aB x.1 d with
  | true =>
   simp only [if_true,iy,cj hx]
   cases aB d z<;>simp
  | false =>
   simp only [Bool.false_eq_true,if_false,iy,zv z d b T]
   cases hz:aB x.1 z with
   | true =>
    have:aB d z=false:=by rw [←cj hz,nM];exact hx
    simp [this]
   | false=>simp
def yx (O:List aG):Prop:=∀l x r,O=l++x::r→x.kind=7→∀o∈x.over,∀y∈O,y.id=o→y∈l
structure Fo (G:aC→Option aG) (O:List aG):Prop where
 to:∀o y,G o=some y→y∈O∧y.id=o
 of:∀y∈O,G y.id=some y
variable {G:aC→Option aG} {O:List aG} {file:aC}
theorem CC (hG:Fo G O) (he:yx O) {l r:List aG} {x:aG} (hO:O=l++x::r) {T:List (aC×Bool)} (hT:∀z,iy T z=true↔∃y∈l,y.id=z∧lW G file y):xq file T x=true↔lW G file x:=by
 unfold xq
 by_cases hk:x.kind=7
 ·rw [if_pos hk,List.any_eq_true]
  constructor
  ·rintro ⟨o,ho,h⟩
   obtain ⟨y,hy,rfl,hc⟩:=(hT o).1 h
   exact .back x _ y hk ho (hG.of y (by rw [hO];simp [hy])) hc
  ·intro hc
   cases hc with
   | own _ h _=>exact absurd hk h
   | back _ o y _ ho hy hc =>
    obtain ⟨h1,h2⟩:=hG.to o y hy
    exact ⟨o,ho,(hT o).2 ⟨y,he l x r hO hk o ho y h1 h2,h2,hc⟩⟩
 ·rw [if_neg hk]
  constructor
  ·exact fun h=>.own x hk h
  ·intro hc
   cases hc with
   | own _ _ h=>exact h
   | back _ _ _ h _ _ _=>exact absurd h hk
theorem Dd (hG:Fo G O) (he:yx O):∀n,n≤O.length→∀z,iy (iD file (O.take n)).1 z=true↔∃y∈O.take n,y.id=z∧lW G file y
 | 0,_,z=>by simp [iD,iy]
 | n+1,hn,z=>by
  have ih:=Dd hG he n (by omega)
  obtain ⟨x,hx⟩:∃x,O[n]?=some x:=⟨_,List.getElem?_eq_getElem (by omega)⟩
  have ht:O.take (n+1)=O.take n++[x]:=by rw [List.take_add_one,hx];rfl
  have hO:O=O.take n++x::O.drop (n+1):=by
   have h1:=(List.take_append_drop (n+1) O).symm
   rw [ht,List.append_assoc] at h1
   exact h1
  have hxO:x∈O:=List.mem_of_getElem? hx
  have hc:=CC hG he hO ih
  rw [ht,ru]
  show iy (qH (iD file (O.take n)).1 x.id (xq file (iD file (O.take n)).1 x)) z=true↔_
  rw [zv]
  cases hz:aB x.id z with
  | true =>
   simp only [if_true]
   rw [hc]
   have hxz:=cj hz
   constructor
   ·exact fun h=>⟨x,by simp,hxz,h⟩
   ·rintro ⟨y,hy,h1,h2⟩
    have h3:y∈O:=by rw [←ht] at hy;exact List.mem_of_mem_take hy
    have h4:=hG.of y h3
    rw [h1,←hxz,hG.of x hxO] at h4
    rw [Option.some.inj h4];exact h2
  | false =>
   simp only [Bool.false_eq_true,if_false]
   rw [ih z]
   constructor
   ·rintro ⟨y,hy,h⟩;exact ⟨y,by simp [hy],h⟩
   ·rintro ⟨y,hy,h1,h2⟩
    rcases List.mem_append.1 hy with hy | hy
    ·exact ⟨y,hy,h1,h2⟩
    ·rw [List.mem_singleton.1 hy] at h1
     rw [h1,show aB z z=true by simp [aB]] at hz
     cases hz
theorem wP (hG:Fo G O) (he:yx O) {pre A r:List aG} (hO:O=pre++A++r) {d:ar} (hA:∀x∈A,x.id.d=d.d) {out:List ar} (hout:(iD file pre).2=out) (hl:(out.getLast?.map (·.d))≠some d.d) :
 ∀m,m≤A.length→((¬∃x∈A.take m,lW G file x)→(iD file (pre++A.take m)).2=out)∧((∃x∈A.take m,lW G file x)→(iD file (pre++A.take m)).2=out++[d])
 | 0,_=>by simp [hout]
 | m+1,hm=>by
  obtain ⟨ih1,ih2⟩:=wP hG he hO hA hout hl m (by omega)
  obtain ⟨x,hx⟩:∃x,A[m]?=some x:=⟨_,List.getElem?_eq_getElem (by omega)⟩
  have hxA:x∈A:=List.mem_of_getElem? hx
  have ht:A.take (m+1)=A.take m++[x]:=by rw [List.take_add_one,hx];rfl
  have hO2:O=(pre++A.take m)++x::(A.drop (m+1)++r):=by
   have h1:=(List.take_append_drop (m+1) A).symm
   rw [ht] at h1
   have h2:pre++A++r=pre++(A.take m++[x]++A.drop (m+1))++r:=congrArg (pre++·++r) h1
   rw [hO,h2]
   simp
  have htk:O.take (pre++A.take m).length=pre++A.take m:=by rw [hO2];exact List.take_left
  have hT:=Dd (file:=file) hG he (pre++A.take m).length (by rw [hO2];simp only [List.length_append];omega)
  rw [htk] at hT
  have hc:=CC hG he hO2 hT
  have hdv:x.id.dv=d:=sG (hA x hxA)
  rw [ht,←List.append_assoc,ru]
  have hs:(oi file (iD file (pre++A.take m)) x).2=if xq file (iD file (pre++A.take m)).1 x=true∧((iD file (pre++A.take m)).2.getLast?.map (·.d))≠some x.id.d then (iD file (pre++A.take m)).2++[x.id.dv] else (iD file (pre++A.take m)).2:=rfl
  rw [hs]
  constructor
  ·intro hn
   rw [if_neg fun h=>hn ⟨x,by simp,hc.1 h.1⟩]
   exact ih1 fun ⟨y,h1,h2⟩=>hn ⟨y,by simp [h1],h2⟩
  ·rintro ⟨y,hy,hyc⟩
   by_cases hb:∃y∈A.take m,lW G file y
   ·rw [if_neg fun h=>h.2 (by rw [ih2 hb,hA x hxA];simp),ih2 hb]
   ·have hyx:y=x:=by
     rcases List.mem_append.1 hy with hy | hy
     ·exact absurd ⟨y,hy,hyc⟩ hb
     ·exact List.mem_singleton.1 hy
    subst hyx
    rw [if_pos ⟨hc.2 hyc,by rw [ih1 hb,hA y hxA];exact hl⟩,ih1 hb,hdv]
theorem Dc {s:List ag} {L:List ar} (hG:Fo G (gt σ s L)) (he:yx (gt σ s L)) (hA:∀d∈L,∀x∈bK σ (bY s d.d),x.id.d=d.d) (hn:(dG L).Nodup) {cB:ar→Bool} (hc:∀d∈L,cB d=true↔∃x∈bK σ (bY s d.d),lW G file x) :
 ∀n,n≤L.length→(iD file (gt σ s (L.take n))).2=(L.take n).filter cB
 | 0,_=>by simp [gt,iD]
 | n+1,h=>by
  have ih:=Dc hG he hA hn hc n (by omega)
  obtain ⟨d,hd⟩:∃d,L[n]?=some d:=⟨_,List.getElem?_eq_getElem (by omega)⟩
  have hdL:d∈L:=List.mem_of_getElem? hd
  have ht:L.take (n+1)=L.take n++[d]:=by rw [List.take_add_one,hd];rfl
  have hL:L=L.take n++d::L.drop (n+1):=by
   have h1:=(List.take_append_drop (n+1) L).symm
   rw [ht,List.append_assoc] at h1
   exact h1
  have hO:gt σ s L=gt σ s (L.take n)++bK σ (bY s d.d)++gt σ s (L.drop (n+1)):=by
   have h1:gt σ s L=gt σ s (L.take n++d::L.drop (n+1)):=by rw [←hL]
   rw [h1]
   simp [gt]
  have hl:(((L.take n).filter cB).getLast?.map (·.d))≠some d.d:=by
   intro h1
   cases h2:((L.take n).filter cB).getLast? with
   | none=>rw [h2] at h1;cases h1
   | some e =>
    rw [h2] at h1
    have h3:e∈L.take n:=(List.mem_filter.1 (List.mem_of_getLast? h2)).1
    have h4:(dG (L.take n++d::L.drop (n+1))).Nodup:=by rw [←hL];exact hn
    unfold dG at h4
    rw [List.map_append,List.nodup_append] at h4
    exact h4.2.2 e.d (List.mem_map.2 ⟨e,h3,rfl⟩) d.d (by simp) (Option.some.inj h1)
  obtain ⟨k1,k2⟩:=wP hG he hO (hA d hdL) ih hl (bK σ (bY s d.d)).length (Nat.le_refl _)
  rw [List.take_length] at k1 k2
  rw [ww hd,ht,List.filter_append]
  by_cases hb:∃x∈bK σ (bY s d.d),lW G file x
  ·rw [k2 hb];simp [(hc d hdL).2 hb]
  ·rw [k1 hb]
   have:cB d=false:=by
    cases h2:cB d with
    | false=>rfl
    | true=>exact absurd ((hc d hdL).1 h2) hb
   simp [this]
end Go.Proofs.Ev
namespace Go.Proofs.Ev
open Go.Proofs
variable {σ:aZ}
theorem tZ {α β:Type} {f:α→List β}:∀{L:List α} {l:List β} {x:β} {r:List β},(L.map f).flatten=l++x::r→∃i d m,L[i]?=some d∧(f d)[m]?=some x∧l=((L.take i).map f).flatten++(f d).take m
 | [],l,x,r,h=>by simp at h
 | a::L,l,x,r,h=>by
  rw [List.map_cons,List.flatten_cons] at h
  by_cases hl:l.length<(f a).length
  ·refine ⟨0,a,l.length,rfl,?_,?_⟩
   ·have h1:(f a++(L.map f).flatten)[l.length]?=some x:=by rw [h];simp
    rwa [List.getElem?_append_left hl] at h1
   ·have h1:=congrArg (List.take l.length) h
    rw [List.take_append_of_le_length (by omega),List.take_left] at h1
    simp [h1]
  ·obtain ⟨l',hl'⟩:∃l',l=f a++l':=by
    have h1:=congrArg (List.take (f a).length) h
    rw [List.take_left,List.take_append_of_le_length (by omega)] at h1
    exact ⟨l.drop (f a).length,by conv=>rhs;rw [h1];rw [List.length_take,Nat.min_eq_left (by omega),List.take_append_drop]⟩
   subst hl'
   rw [List.append_assoc] at h
   obtain ⟨i,d,m,e1,e2,e3⟩:=tZ (List.append_cancel_left h)
   exact ⟨i+1,d,m,by simpa using e1,e2,by rw [e3];simp⟩
theorem sZ:∀(l:List aW) (own:List aG) (m:Nat) (y:aG),(co l own)[m]?=some y→own[m]?=some y∨∃i c,l[i]?=some c∧(y.over=[]∨y.over=c.over)∧(co (l.take i) own).length≤m
 | [],own,m,y,h=>.inl h
 | c::l,own,m,y,h=>by
  rcases sZ l _ m y h with h | ⟨i,c',h1,h2,h3⟩
  ·by_cases hm:m<own.length
   ·rw [List.getElem?_append_left hm] at h;exact .inl h
   ·rw [List.getElem?_append_right (by omega)] at h
    exact .inr ⟨0,c,rfl,CO (List.mem_of_getElem? h),by simpa [co] using hm⟩
  ·exact .inr ⟨i+1,c',by simpa using h1,h2,by simpa [co] using h3⟩
theorem rZ {c:aW} {own:List aG}:∀{l:List aC},fT c own l=0→∀z∈l,∃b,sC z own.length b=0
 | [],_,z,hz=>by simp at hz
 | x::l,h,z,hz=>by
  rw [fT] at h
  split at h
  ·rename_i h1
   rcases List.mem_cons.1 hz with rfl | hz
   ·exact ⟨_,h1⟩
   ·exact rZ h z hz
  ·rename_i h1;exact absurd h h1
theorem Eu {p:aA} (hp:p.Good) {m:Nat} {y:aG} (hy:(aT p)[m]?=some y) {z:aC} (hz:z∈y.over) (h0:bz z.d=true):0≤z.n∧z.n<(m:Int):=by
 rw [hp.atoms] at hy
 rcases sZ p.changes [] m y hy with h | ⟨i,c,h1,h2,h3⟩
 ·simp at h
 ·have hr:=(hp.change h1).2
  have ho:fT c (co (p.changes.take i) []) c.over=0:=by
   unfold lJ at hr
   repeat' split at hr
   all_goals first | omega | (rename_i h;exact absurd hr h) | skip
   all_goals simp_all
  have hzc:z∈c.over:=by
   rcases h2 with h2 | h2
   ·rw [h2] at hz;simp at hz
   ·rw [←h2];exact hz
  obtain ⟨b,hb⟩:=rZ ho z hzc
  obtain ⟨k1,k2,_⟩:=xK hb
  have:=(k2 h0).1
  omega
theorem Et {p:aA} (hp:p.Good) {y:aG} (hy:y∈aT p) {z:aC} (hz:z∈y.over) (h0:bz z.d=false):z.dv∈cM p:=by
 rw [hp.atoms] at hy
 rcases l7 p.changes [] y hy with h | h | ⟨c,hc,h⟩
 ·simp at h
 ·rw [h] at hz;simp at hz
 ·rw [h] at hz
  unfold cM
  refine List.mem_append.2 (.inr (List.mem_flatten.2 ⟨_,List.mem_map.2 ⟨c,hc,rfl⟩,?_⟩))
  unfold dR
  exact List.mem_map.2 ⟨z,List.mem_filter.2 ⟨xD (hp.good hc) (by unfold fF;simp [hz]) h0,by simp [h0]⟩,rfl⟩
theorem xg {s:List ag} (P:fa s) {d:ar} (hd:fU s d.d=true) {a:aG} (ha:a∈bK σ (bY s d.d)):a.id.d=d.d:=by
 obtain ⟨hp,x,hx,h1,h2⟩:=bX P.good hd
 obtain ⟨i,hi⟩:=List.getElem?_of_mem ha
 rw [(jY hp hi).1,←h2,P.named x hx,h1]
theorem Er (hi:b9 σ) (hd:∀l,(σ.d l).Perm l) {s:List ag} (P:fa s):yx (gt σ s (cn σ s s.length [])):=by
 intro l x r hO _ o ho y hy hyo
 have hh:=jn (σ:=σ) s
 have hn:(dG (cn σ s s.length [])).Nodup:=jh s _ _ (by simp [dG])
 obtain ⟨L,hL⟩:∃L,L=cn σ s s.length []:=⟨_,rfl⟩
 rw [←hL] at hh hn hO hy
 unfold gt at hO hy
 obtain ⟨i,d,m,e1,e2,e3⟩:=tZ hO
 have hdL:d∈L:=List.mem_of_getElem? e1
 obtain ⟨hp,x',hx',g1,g2⟩:=bX P.good (hh d hdL)
 obtain ⟨w,hw,hyw⟩:=List.mem_flatten.1 hy
 obtain ⟨d',hd',rfl⟩:=List.mem_map.1 hw
 have hyd:=xg P (hh d' hd') hyw
 unfold bK at e2
 rw [List.getElem?_map] at e2
 cases hy0:(aT (bY s d.d))[m]? with
 | none=>rw [hy0] at e2;cases e2
 | some y0 =>
  rw [hy0] at e2
  have e2':=Option.some.inj e2
  have hpd:(bY s d.d).dig.d=d.d:=by rw [←g2,P.named x' hx',g1]
  rw [←e2'] at ho
  obtain ⟨z,hz,hzo⟩:=List.mem_map.1 (((hi _).1.mem_iff).1 ho)
  cases h0:bz z.d with
  | true =>
   obtain ⟨k1,k2⟩:=Eu hp hy0 hz h0
   have ho':bi z (bY s d.d).dig=⟨(bY s d.d).dig.d,z.n,(bY s d.d).dig.h,(bY s d.d).dig.b⟩:=by unfold bi;rw [if_pos (by simp [h0,k1])]
   rw [ho'] at hzo
   have hod:o.d=d.d:=by rw [←hzo];exact hpd
   have hdd:d'=d:=sG (by rw [←hyd,hyo,hod])
   rw [hdd] at hyw
   obtain ⟨j,hj⟩:=List.getElem?_of_mem hyw
   have hjn:=(jY hp hj).2
   have hon:o.n=z.n:=by rw [←hzo]
   rw [hyo,hon] at hjn
   rw [e3]
   refine List.mem_append.2 (.inr ?_)
   rw [List.mem_take_iff_getElem]
   have hjl:=(List.getElem?_eq_some_iff.1 hj)
   exact ⟨j,by have:=hjl.1;omega,hjl.2⟩
  | false =>
   have ho':bi z (bY s d.d).dig=z:=by unfold bi;rw [if_neg (by simp [h0])]
   rw [ho'] at hzo
   have hm:=Et hp (List.mem_of_getElem? hy0) hz h0
   obtain ⟨out,x2,hx2,h1,h2,mm,h3⟩:=us (σ:=σ) s.length [] d.d (by rw [←hL];exact qg.2 ⟨d,hdL,rfl⟩) rfl
   have hxx:=uniq P.good.2.1 hx2 hx' (by rw [h1,g1])
   subst hxx
   simp only [wu,Bool.and_eq_true,Bool.not_eq_true'] at h2
   have h4:=h2.2
   unfold gb at h4
   rw [List.all_eq_true] at h4
   rw [g2] at h4
   obtain ⟨n,hn1,hn2⟩:=(lu (σ.d (cM (bY s d.d))) z.d).2 ⟨z.dv,(hd _).mem_iff.2 hm,rfl⟩
   have h5:=h4 n hn1
   rw [hn2] at h5
   obtain ⟨e,he,hed⟩:=qg.1 h5
   rw [←hL] at h3
   have hil:i<L.length:=(List.getElem?_eq_some_iff.1 e1).1
   have hio:i=out.length:=by
    refine (List.getElem?_inj (l:=dG L) (by unfold dG;simpa using hil) hn).1 ?_
    unfold dG
    rw [List.getElem?_map,List.getElem?_map,e1,h3]
    simp [h1]
   have hout:L.take i=out:=by rw [hio,h3];exact List.take_left
   have hde:d'=e:=sG (by rw [←hyd,hyo,←hzo,hed])
   rw [e3,hout]
   refine List.mem_append.2 (.inl (List.mem_flatten.2 ⟨_,List.mem_map.2 ⟨e,he,rfl⟩,?_⟩))
   rw [←hde];exact hyw
end Go.Proofs.Ev
namespace Go.Proofs.Ev
open Go.Proofs
variable {σ:aZ}
def qJ (l:List aG):oN:=⟨l,0,(.exact,[]),(.exact,[])⟩
def Kl (s:List ag) (l:List aG):Nat:=(dH s).length*1025+l.length
def ic (s:List ag) (l:List aG):SK×List aC:=(cD (aU s) (Kl s l) (qJ l)).out
theorem we {F:aC→Option aG} {a:oN} (h:a.i=a.l.length):∀n,cD F n a=a
 | 0=>rfl
 | n+1=>by
  rw [cD,we h n,ja]
  have:a.l[a.i]?=none:=List.getElem?_eq_none (by omega)
  rw [this]
theorem zq (F:aC→Option aG) (a:oN) (n:Nat):∀m,cD F (m+n) a=cD F m (cD F n a)
 | 0=>by rw [Nat.zero_add];rfl
 | m+1=>by rw [Nat.succ_add,cD,zq F a n m];rfl
theorem oZ:∀{l:List aG},(l.map fun x=>x.id).Nodup→∀x∈l,l.find? (fun y=>aB y.id x.id)=some x
 | [],_,x,hx=>by simp at hx
 | a::l,hn,x,hx=>by
  rw [List.map_cons,List.nodup_cons] at hn
  rw [List.find?_cons]
  rcases List.mem_cons.1 hx with rfl | hx
  ·rw [show aB x.id x.id=true by simp [aB]]
  ·have:aB a.id x.id=false:=by
    cases h:aB a.id x.id with
    | false=>rfl
    | true=>exact absurd (List.mem_map.2 ⟨x,hx,(cj h).symm⟩) hn.1
   rw [this]
   exact oZ hn.2 x hx
theorem Gw (l:List aG):(l.map fun x=>x.id)=(l.map kj).map fun x=>x.id:=by rw [List.map_map];rfl
theorem ya (hi:b9 σ) {s:List ag} (P:fa s):(dH s).map kj=(yC σ s).map kj:=by
 unfold dH
 rw [lK hi P (sH P),wZ P]
theorem ym {s:List ag} (P:fa s):(dG (s.map fun x=>x.id)).Nodup:=by
 unfold dG
 rw [List.map_map,List.nodup_iff_pairwise_ne]
 exact List.pairwise_map.2 P.good.2.1
theorem JG (hi:b9 σ) {s:List ag} (P:fa s):(∀x∈dH s,aU s x.id=some x)∧∀o y,aU s o=some y→y∈dH s∧y.id=o:=by
 constructor
 ·refine fun x hx=>oZ ?_ x hx
  rw [Gw,ya hi P,←Gw,←wZ P]
  exact CR P (sH P) (ym P)
 ·intro o y h
  exact ⟨List.mem_of_find?_eq_some h,cj (List.find?_some (p:=fun x:aG=>aB x.id o) h)⟩
theorem qq (hi:b9 σ) {s:List ag} (P:fa s):∀x∈dH s,x.over.length≤1024:=by
 intro x hx
 have h1:kj x∈(yC σ s).map kj:=by rw [←ya hi P];exact List.mem_map.2 ⟨x,hx,rfl⟩
 obtain ⟨y,hy,he⟩:=List.mem_map.1 h1
 have ho:y.over=x.over:=(congrArg (·.over) he:(kj y).over=(kj x).over)
 obtain ⟨z,hz,hyz⟩:=sW.1 hy
 rw [←ho]
 exact GY (P.good.1 z hz) hyz fun l=>(hi l).1
theorem JH (hi:b9 σ) {s:List ag} (P:fa s):(dH s).length≤90000*s.length:=by
 have h:=congrArg List.length (ya hi P)
 rw [List.length_map,List.length_map] at h
 rw [h]
 exact iv fun x hx=>gc (P.good.1 x hx)
theorem qY (hi:b9 σ) {s:List ag} (P:fa s) {l:List aG} (hl:∀x∈l,x∈dH s):∃n,(cD (aU s) n (qJ l)).i=(cD (aU s) n (qJ l)).l.length∧ic s l=(cD (aU s) n (qJ l)).out∧n≤Kl s l∧
 ∀j,j≤n→(cD (aU s) j (qJ l)).l.length≤Kl s l∧(j<n→(cD (aU s) j (qJ l)).i<(cD (aU s) j (qJ l)).l.length)∧wW (dH s) (aU s) l (cD (aU s) j (qJ l)):=by
 obtain ⟨hU,hF⟩:=JG hi P
 have W:=Km (F:=aU s) hl
 obtain ⟨n,n1,n2,n3⟩:=Ge hU hF (qq hi P) (Kl s l) (qJ l) W (by
  have h1:Cq (dH s) (qJ l).met.2≤(dH s).length:=List.length_filter_le _ _
  have h2:=Nat.mul_le_mul_right (1024+1) h1
  have h3:(qJ l).l.length-(qJ l).i=l.length:=rfl
  rw [Jf,h3,Kl]
  exact Nat.add_le_add_right h2 _)
 refine ⟨n,n2,?_,n1,fun j hj=>?_⟩
 ·unfold ic
  obtain ⟨m,hm⟩:∃m,Kl s l=m+n:=⟨Kl s l-n,by omega⟩
  rw [hm,zq,we n2]
 ·obtain ⟨a,b,c⟩:=n3 j hj
  have h0:(qJ l).i=0:=rfl
  exact ⟨by omega,c,Df hU hF W j⟩
theorem DN (hi:b9 σ) {s:List ag} (P:fa s) {l:List aG} (hl:∀x∈l,x∈dH s) (file:aC):dj (ic s l).2 file=true↔∃x∈l,lW (aU s) file x:=by
 obtain ⟨n,h1,h2,_,h3⟩:=qY hi P hl
 rw [h2]
 exact My (h3 n (Nat.le_refl _)).2.2 h1 file
theorem vR {F G:aC→Option aG} (h:∀o,(F o).map kj=(G o).map kj) {file:aC} {l m:List aG} (hl:l.map kj=m.map kj) (hx:∃x∈l,lW F file x):∃x∈m,lW G file x:=by
 obtain ⟨x,h1,h2⟩:=hx
 have h3:kj x∈m.map kj:=by rw [←hl];exact List.mem_map.2 ⟨x,h1,rfl⟩
 obtain ⟨y,hy,he⟩:=List.mem_map.1 h3
 exact ⟨y,hy,IK h h2 y he.symm⟩
theorem m5 {s:List ag} (P:fa s) {d:ar} (hd:fU s d.d=true):∀x∈dE (bY s d.d),x∈dH s:=by
 intro x hx
 obtain ⟨_,y,hy,h1,_⟩:=bX P.good hd
 unfold dH cu
 refine List.mem_flatten.2 ⟨_,List.mem_map.2 ⟨y.id,List.mem_map.2 ⟨y,hy,rfl⟩,rfl⟩,?_⟩
 rw [h1];exact hx
theorem Cp (hi:b9 σ) (hd:∀l,(σ.d l).Perm l) {s:List ag} (P:fa s) (hcov:∀x∈s,dg (cn σ s s.length []) x.id.d=true) (file:aC) :
 (iD file (gt σ s (cn σ s s.length []))).2=(d9 s s.length []).filter fun d=>dj (ic s (dE (bY s d.d))).2 file:=by
 have hh:=jn (σ:=σ) s
 have hn:(dG (cn σ s s.length [])).Nodup:=jh s _ _ (by simp [dG])
 have he:=Er hi hd P
 rw [fl hd P.asc P.good.1 s.length []]
 obtain ⟨L,hL⟩:∃L,L=cn σ s s.length []:=⟨_,rfl⟩
 rw [←hL] at hh hn he hcov ⊢
 have hpn:∀d∈L,((bK σ (bY s d.d)).map fun x=>x.id).Nodup:=fun d hdL=>by
  rw [List.nodup_iff_pairwise_ne]
  exact List.pairwise_map.2 (wA (bX P.good (hh d hdL)).1)
 have hG:Fo (gp σ s) (gt σ s L):=by
  constructor
  ·intro o y h
   unfold gp at h
   split at h
   ·rename_i hs
    have h1:=List.mem_of_find?_eq_some h
    have h2:=cj (List.find?_some (p:=fun x:aG=>aB x.id o) h)
    refine ⟨?_,h2⟩
    obtain ⟨_,x,hx,k1,_⟩:=bX P.good hs
    obtain ⟨d,hdL,hdd⟩:=qg.1 (hcov x hx)
    unfold gt
    exact List.mem_flatten.2 ⟨_,List.mem_map.2 ⟨d,hdL,rfl⟩,by rw [hdd,k1];exact h1⟩
   ·cases h
  ·intro y hy
   unfold gt at hy
   obtain ⟨w,hw,hyw⟩:=List.mem_flatten.1 hy
   obtain ⟨d,hdL,rfl⟩:=List.mem_map.1 hw
   have h1:=xg P (hh d hdL) hyw
   unfold gp
   rw [h1,if_pos (hh d hdL)]
   exact oZ (hpn d hdL) y hyw
 have key:=Dc (file:=file) hG he (fun d hdL x hx=>xg P (hh d hdL) hx) hn (cB:=fun d=>dj (ic s (dE (bY s d.d))).2 file) (fun d hdL=>?_) L.length (Nat.le_refl _)
 ·rwa [List.take_length] at key
 ·obtain ⟨hp,x,hx,k1,k2⟩:=bX P.good (hh d hdL)
  have ha:=mc (σ:=σ) hi hp (by rw [←k2];exact P.free x hx)
  rw [DN hi P (m5 P (hh d hdL))]
  exact ⟨vR (fun o=>nS hi P o) ha,vR (fun o=>(nS hi P o).symm) ha.symm⟩
end Go.Proofs.Ev
namespace Go.Proofs.Ev
open Go.Proofs
variable {C:bD} {σ:aZ}
structure cC (C:bD) (σ:aZ):Prop extends li C σ where
 pureX:∀f,f∈[27,115,59,24,62,61,26,66,31,7,29,9,11,12,14,13]→C.pure f=true
 kName:C.kinds 86=some (List.replicate 32 (.int .u8)++[.int .i64]++(List.replicate 32 (.int .u8)++[.int .i64])++[.str])
 kEv:C.kinds 62=some ([.int .i64]++List.replicate 32 (.int .u8)++(List.replicate 32 (.int .u8)++[.int .i64]))
def sr (base sz:Nat) (X:ae) (v:AV) (rows:List (List AV)):Prop:=(rows=[]∧v=.lst [] true)∨(rows≠[]∧∃b g,v=.sl b g sz 0 rows.length∧X[b]?=some (.rows sz g rows)∧base≤b)
theorem sr.keep {base sz:Nat} {X X':ae} {v:AV} {rows:List (List AV)} (h:sr base sz X v rows) (hk:∀(b g:Nat) (rs:List (List AV)),base≤b→X[b]?=some (bL.rows sz g rs)→X'[b]?=some (bL.rows sz g rs)):sr base sz X' v rows:=by
 rcases h with h | ⟨h0,b,g,h1,h2,h3⟩
 ·exact .inl h
 ·exact .inr ⟨h0,b,g,h1,hk _ _ _ h3 h2,h3⟩
theorem sr.app {base sz:Nat} {X:ae} {v:AV} {rows:List (List AV)} (h:sr base sz X v rows) (L:ae):sr base sz (X++L) v rows :=
 h.keep fun b g rs _ hb=>by rw [List.getElem?_append_left (List.getElem?_eq_some_iff.1 hb).1];exact hb
theorem sr.freeze {base k sz d:Nat} {X:ae} {v:AV} {rows:List (List AV)} (h:sr base sz X v rows) (hk:k≤base) (hc:AV.closedss rows=true):aI X k (d+1) v=some (am (gV rows) rows):=by
 rcases h with ⟨rfl,rfl⟩ | ⟨h0,b,g,rfl,h2,h3⟩
 ·exact ak (v:=.lst [] true) rfl
 ·cases rows with
  | nil=>exact absurd rfl h0
  | cons r rows=>rw [dW h2 (by omega) hc];rfl
theorem sr.append {P:Program} {base lo:Nat} {ts:Array TypeId} {e:TypeId} {xd:TypeDesc} {sz by_:Nat} (h0:(ts[0]?).bind P.underlying=some (.slice e)) (h1:(ts[1]?).bind P.underlying=some xd) (hs:br P e=some sz) (hb:bytesOf P e=some by_)
 (hz:(aN P e).map (fun z=>z.cells.length)=some sz) (hp:0<sz) (hbl:base≤lo) {X:ae} (hX:lo≤X.length) {v x:AV} {rows ys:List (List AV)} (hv:sr lo sz X v rows)
 (hx:cq X xd x=some ys) (hy:∀r∈ys,r.length=sz) (hne:ys≠[]) (hbound:(rows.length+ys.length)*(by_+1)≤2^45) :
 ∃v' X',bg P base X ts v.denil x=some (v',X')∧sr lo sz X' v' (rows++ys)∧X.length≤X'.length∧(∃b g l,v'=.sl b g sz 0 l)∧∀k blk,X[k]?=some blk→(∀b g l,v=.sl b g sz 0 l→k≠b)→X'[k]?=some blk∧∀b g l,v'=.sl b g sz 0 l→k≠b:=by
 have go:∀u:AV,kX lo sz X u rows→u.denil=v.denil→(∀b g l,u=.sl b g sz 0 l→v=.sl b g sz 0 l)→∃v' X',bg P base X ts v.denil x=some (v',X')∧sr lo sz X' v' (rows++ys)∧X.length≤X'.length∧(∃b g l,v'=.sl b g sz 0 l)∧∀k blk,X[k]?=some blk→(∀b g l,v=.sl b g sz 0 l→k≠b)→X'[k]?=some blk∧∀b g l,v'=.sl b g sz 0 l→k≠b:=by
  intro u hu hd hsl
  obtain ⟨v',X',ha,hS,hl,hv',hk⟩:=kX.append h0 h1 hs hb hz hp hbl hX hu hx hy hne hbound
  rw [hd] at ha
  refine ⟨v',X',ha,?_,hl,hv',fun k blk hb hn=>hk k blk hb fun b g l h=>hn b g l (hsl b g l h)⟩
  rcases hS with ⟨h,_⟩ | h
  ·exact absurd (List.append_eq_nil_iff.1 h).2 hne
  ·exact .inr h
 rcases hv with ⟨rfl,rfl⟩ | h
 ·exact go .nils (.inl ⟨rfl,rfl⟩) rfl fun _ _ _ h=>by cases h
 ·exact go v (.inr h) rfl fun _ _ _ h=>h
theorem qa {α β:Type} (f:α→β) (l:List α):gV (l.map f)=gV l:=by unfold gV;cases l<;>rfl
set_option maxHeartbeats 1000000 in
theorem EU (S:cC C σ) (l:List ag) (ids:List ar) (k k2:SK) (hl:l.length≤2^20) (hi:ids.length≤2^20):b8 Tryz.prog C 27 [] [am k (l.map ag.cells),am k2 (ids.map ar.cells)] (am (gV (cL l ids)) ((cL l ids).map ag.cells)):=by
 refine aw (S.pureX _ (by decide)) fun H=>aj Tryz.func27 rfl (S.prim _ (by decide)) (by simp) (by kernel_rfl) ?_
 unfold Tryz.f27
 simp [ah]
 refine ay l.length (fun i s X=>s 0=am k (l.map ag.cells)∧s 1=am k2 (ids.map ar.cells)∧s 6=.int .i64 i∧H.length≤X.length∧sr H.length 37 X (s 5) ((cL (l.take i) ids).map ag.cells)) ?_ ?_
 ·exact ⟨rfl,rfl,rfl,Nat.le_refl _,.inl ⟨by simp [cL],rfl⟩⟩
 rintro i s X ⟨q0,q1,q6,hX,hS⟩ hi'
 by_cases h:i<l.length
 rotate_left
 ·have h':i=l.length:=by omega
  subst h'
  rw [List.take_length] at hS
  simp [q0,q1,q6]
  have:=hS.freeze (k:=H.length) (d:=2) (Nat.le_refl _) (aH ag.closed _)
  rwa [qa] at this
 have eh:=fun (Y:ae) (K:AV→ae→Prop)=>(yi S.tocW ids k2 l[i].id (by omega)).eq H.length Y (by rw [List.append_nil,List.mapM_cons,ak (bI (aH ar.closed _)),List.mapM_cons,List.mapM_nil,ak (v:=.agg l[i].id.cells) (ar.closed _)];rfl) K
 have hsn:cL (l.take (i+1)) ids=cL (l.take i) ids++if dg ids l[i].id.d=true then [l[i]] else []:=by
  unfold cL
  rw [List.take_add_one,List.getElem?_eq_getElem h,List.filter_append]
  simp [List.filter_cons]
 have hkl:(cL (l.take i) ids).length≤2^20:=by
  have:=List.length_filter_le (fun x:ag=>dg ids x.id.d) (l.take i)
  have h2:(l.take i).length≤l.length:=by simp;omega
  unfold cL;omega
 cases hh:dg ids l[i].id.d with
 | false =>
  rw [hh] at hsn eh
  simp [q0,q1,q6,h,eh,au h (by omega)]
  exact ⟨hX,by rw [hsn];simpa using hS⟩
 | true =>
  rw [hh] at hsn eh
  obtain ⟨v',X',ha,hS',hl',_,_⟩:=hS.append (P:=Tryz.prog) (base:=H.length) (ts:=#[23,23]) (e:=96) (xd:=.slice 96) (x:=.lst [l[i].cells] true) (ys:=[l[i].cells])
   (by simp) (by simp) J9 Lo (by simp [show aJ.length=32 from rfl]) (by decide) (Nat.le_refl _) hX rfl (by simp) (by simp) (by simp;omega)
  simp [q0,q1,q6,h,eh,ah,aq,ha,au h (by omega)]
  exact ⟨rfl,by omega,by rw [hsn,if_pos rfl,List.map_append];exact hS'⟩
theorem rY {s:List ag} {L:List ar} {j:Nat} {d:ar} (h:L[j]?=some d):cu s (L.take (j+1))=cu s (L.take j)++dE (bY s d.d):=by
 unfold cu;rw [List.take_add_one,h];simp
theorem kq (hi:b9 σ) {s:List ag} (P:fa s) {L:List ar} (hL:∀d∈L,fU s d.d=true):(cu s L).length≤90000*L.length:=by
 have h:=congrArg List.length (lK hi P hL)
 rw [List.length_map,List.length_map] at h
 rw [h]
 exact iv fun d hd=>gc (bX P.good (hL d hd)).1
theorem Dl (hi:b9 σ) {s:List ag} (P:fa s) {d:ar} (hd:fU s d.d=true):dE (bY s d.d)≠[]:=by
 obtain ⟨hp,x,hx,_,h2⟩:=bX P.good hd
 have h:=congrArg List.length (mc (σ:=σ) hi hp (by rw [←h2];exact P.free x hx))
 rw [List.length_map,List.length_map] at h
 intro h0
 rw [h0] at h
 exact Dk (σ:=σ) hp (List.length_eq_zero_iff.1 h.symm)
set_option maxHeartbeats 1000000 in
theorem qx (S:cC C σ) (hi:b9 σ) {s0:List ag} (P:fa s0) (h8:s0.length≤8) (k k2:SK) {L:List ar} (hL:∀d∈L,fU s0 d.d=true) (hn:L.length≤8):b8 Tryz.prog C 115 [] [am k (s0.map ag.cells),am k2 (L.map ar.cells)] (am (gV (cu s0 L)) ((cu s0 L).map aG.cells)):=by
 refine aw (S.pureX _ (by decide)) fun H=>aj Tryz.func115 rfl (S.prim _ (by decide)) (by simp) (by kernel_rfl) ?_
 unfold Tryz.f115
 simp [ah]
 refine ay L.length (fun i s X=>s 0=am k (s0.map ag.cells)∧s 1=am k2 (L.map ar.cells)∧s 6=.int .i64 i∧H.length≤X.length∧sr H.length 172 X (s 5) ((cu s0 (L.take i)).map aG.cells)) ?_ ?_
 ·exact ⟨rfl,rfl,rfl,Nat.le_refl _,.inl ⟨by simp [cu],rfl⟩⟩
 rintro i s X ⟨q0,q1,q6,hX,hS⟩ hi'
 by_cases h:i<L.length
 rotate_left
 ·have h':i=L.length:=by omega
  subst h'
  rw [List.take_length] at hS
  simp [q0,q1,q6]
  have:=hS.freeze (k:=H.length) (d:=2) (Nat.le_refl _) (aH aG.closed _)
  rwa [qa] at this
 obtain ⟨d,hd⟩:∃d,d=L[i]:=⟨_,rfl⟩
 have hdi:L[i]?=some d:=by rw [hd];exact List.getElem?_eq_getElem h
 have hdL:fU s0 d.d=true:=hL d (List.mem_of_getElem? hdi)
 obtain ⟨hp,_⟩:=bX P.good hdL
 have eg:=(nY S.toaV s0 k d (by omega)).eq
 have ea:=(mz S.toaV (bY s0 d.d) hp.fit).eq
 rw [hdL] at eg
 have hlen:=kq hi P (L:=L.take (i+1)) (fun d hd=>hL d (List.mem_of_mem_take hd))
 have hlt:(L.take (i+1)).length≤8:=by simp;omega
 have hll:(cu s0 (L.take (i+1))).length≤720000:=by
  have:90000*(L.take (i+1)).length≤90000*8:=Nat.mul_le_mul_left _ hlt
  omega
 have hA:=Dl hi P hdL
 have hsn:=rY (s:=s0) hdi
 rw [hsn,List.length_append] at hll
 obtain ⟨A,hAe⟩:∃A,A=dE (bY s0 d.d):=⟨_,rfl⟩
 rw [←hAe] at hA hsn hll ea
 obtain ⟨pc,hpc⟩:∃pc,pc=(bY s0 d.d).cells:=⟨_,rfl⟩
 have hpl:pc.length=5:=by rw [hpc];simp
 have hpt:pc.take 5=pc:=List.take_of_length_le (by omega)
 have hpf:∀x∈pc,x.leaf=true:=by rw [hpc];exact List.all_eq_true.1 (bY s0 d.d).leafs
 obtain ⟨v',X',ha,hS',hl',_,_⟩:=(hS.app [.rows 5 0 [pc]]).append (P:=Tryz.prog) (base:=H.length) (ts:=#[89,89]) (e:=72) (xd:=.slice 72) (x:=(am (nQ (bY s0 d.d)) (A.map aG.cells)).denil) (ys:=A.map aG.cells)
  (by simp) (by simp) kK od (by simp) (by decide) (Nat.le_refl _) (by simp;omega) (by cases nQ (bY s0 d.d)<;>cases A<;>first | exact absurd rfl hA | rfl) (fun r hr=>by obtain ⟨y,_,rfl⟩:=List.mem_map.1 hr;simp) (by simpa using hA) (by simp;omega)
 rw [←hpc] at eg ea
 simp [q0,q1,q6,h,←hd,eg,ea,ao,aD,hpl,hpt,hX,ha,au h (by omega)]
 simp at hl'
 exact ⟨hpf,by omega,by rw [hsn,List.map_append];exact hS'⟩
theorem G9 (S:cC C σ) (hi:b9 σ) {s0:List ag} (P:fa s0) (h8:s0.length≤8) (k:SK):b8 Tryz.prog C 59 [] [am k (s0.map ag.cells)] (am (gV (dH s0)) ((dH s0).map aG.cells)):=by
 refine aw (S.pureX _ (by decide)) fun H=>aj Tryz.func59 rfl (S.prim _ (by decide)) (by simp) (by kernel_rfl) ?_
 unfold Tryz.f59
 have e1:=(C6 S.toaV s0 k (by omega)).eq
 have e2:=(qx S hi P h8 k (gV s0) (sH P) (by simpa using h8)).eq
 simp [aE,e1]
 simp only [List.map_map] at e2
 simp [e2]
 exact ak (bI (aH aG.closed _))
theorem pw (hi:b9 σ) {s0:List ag} (P:fa s0) (h8:s0.length≤8):(dH s0).length≤720000:=by
 have h1:=JH hi P
 have:90000*s0.length≤90000*8:=Nat.mul_le_mul_left _ h8
 omega
set_option maxHeartbeats 1000000 in
theorem nX (S:cC C σ) (hi:b9 σ) {s0:List ag} (P:fa s0) (h8:s0.length≤8) (k:SK) (id:aC):b8 Tryz.prog C 24 [] [am k (s0.map ag.cells),.agg id.cells] (.tup [.agg ((aU s0 id).getD bV).cells,.bool (aU s0 id).isSome]):=by
 refine aw (S.pureX _ (by decide)) fun H=>aj Tryz.func24 rfl (S.prim _ (by decide)) (by simp) (by kernel_rfl) ?_
 unfold Tryz.f24
 have e:=gZ S.toaz
 have ea:=(G9 S hi P h8 k).eq
 have hl:=pw hi P h8
 unfold aU
 generalize dH s0=A at ea hl ⊢
 simp [aE,ea]
 refine ay A.length (fun i s H'=>H'=H++[.rows 33 0 [id.cells],.rows 172 0 [bV.cells]]∧s 3=.ptr H.length 0 33 0 0∧s 4=.ptr (H.length+1) 0 172 0 0∧s 6=am (gV A) (A.map aG.cells)∧s 7=.int .i64 i∧A.find? (fun x=>aB x.id id)=(A.drop i).find? (fun x=>aB x.id id)) ?_ ?_
 ·exact ⟨rfl,rfl,rfl,rfl,rfl,rfl⟩
 rintro i s H' ⟨rfl,e3,e4,e6,e7,hc⟩ hi'
 by_cases h:i<A.length
 ·rw [List.drop_eq_getElem_cons h,List.find?_cons] at hc
  cases hd:aB A[i].id id with
  | true =>
   rw [hd] at hc
   rw [hc]
   simp [e3,e4,e6,e7,h,e,hd,ao]
   exact bb (ak (v:=.agg _) (aG.closed _)) (by simp)
  | false =>
   rw [hd] at hc
   simp [e3,e4,e6,e7,h,e,hd,au h (by omega)]
   exact hc
 ·have h':i=A.length:=by omega
  subst h'
  rw [List.drop_length] at hc
  rw [hc]
  simp [e3,e4,e6,e7,ao,aD]
  exact bb (ak (v:=.agg _) (aG.closed _)) (by simp)
end Go.Proofs.Ev
namespace Go.Proofs.Ev
open Go.Proofs
variable {C:bD} {σ:aZ}
theorem GE (l:List aG) (d:aC) {i:Nat} (h:i<l.length):vd (l.take (i+1)) d=if dj l[i].over d=true then cd (vd (l.take i) d) l[i].id else vd (l.take i) d:=by
 unfold vd CM
 rw [List.take_add_one,List.getElem?_eq_getElem h,List.filter_append,List.map_append,List.foldl_append]
 by_cases hh:dj l[i].over d=true<;>simp [hh]
theorem zp:∀(l:List aC) (a:SK×List aC),(l.foldl cd a).2.length≤a.2.length+l.length
 | [],a=>by simp
 | x::l,a=>by have:=zp l (cd a x);have:=ui a x;simp only [List.foldl_cons,List.length_cons];omega
theorem I8 (l:List aG) (d:aC):(vd l d).2.length≤l.length:=by
 have h1:=zp (CM l d) (.exact,[])
 have h2:(CM l d).length≤l.length:=by unfold CM;rw [List.length_map];exact List.length_filter_le _ _
 unfold vd;simp at h1;omega
set_option maxHeartbeats 1000000 in
theorem JR (S:cC C σ) (l:List aG) (k:SK) (id:aC) (hl:l.length≤2^20) (ho:∀x∈l,x.over.length≤2^20):b8 Tryz.prog C 61 [] [am k (l.map aG.cells),.agg id.cells] (am (vd l id).1 ((vd l id).2.map aC.cells)):=by
 refine aw (S.pureX _ (by decide)) fun H=>aj Tryz.func61 rfl (S.prim _ (by decide)) (by simp) (by kernel_rfl) ?_
 unfold Tryz.f61
 simp [aE,ah]
 refine ay l.length (fun i s X=>X=H++[.rows 33 0 [id.cells]]∧s 0=am k (l.map aG.cells)∧s 3=.ptr H.length 0 33 0 0∧s 6=.int .i64 i∧s 5=am (vd (l.take i) id).1 ((vd (l.take i) id).2.map aC.cells)) ?_ ?_
 ·exact ⟨rfl,rfl,rfl,rfl,rfl⟩
 rintro i s X ⟨rfl,q0,q3,q6,q5⟩ hi
 by_cases h:i<l.length
 rotate_left
 ·have h':i=l.length:=by omega
  subst h'
  rw [List.take_length] at q5
  simp [q0,q3,q5,q6]
  exact ak (bI (aH aC.closed _))
 have eI:=(rm S.toba l[i].over l[i].overK id (ho _ (List.getElem_mem h))).eq
 have hk:=GE l id h
 have hkl:=I8 (l.take i) id
 have eN:=(mA S.toaV (vd (l.take i) id) l[i].id (by simp at hkl;omega)).eq
 rw [show (l[i].over.any fun x=>aB x id)=dj l[i].over id from rfl] at eI
 generalize vd (l.take i) id=K1 at *
 cases hh:dj l[i].over id with
 | true =>
  rw [hh] at eI hk
  simp [q0,q3,q5,q6,h,eI,eN,au h (by omega)]
  rw [hk];rfl
 | false =>
  rw [hh] at eI hk
  simp [q0,q3,q5,q6,h,eI,au h (by omega)]
  rw [hk];rfl
def pI (lo sz:Nat) (X:ae) (v:AV) (rows:List (List AV)):Prop:=(rows.length≤1∧v=.lst rows true)∨(2≤rows.length∧∃b g,v=.sl b g sz 0 rows.length∧X[b]?=some (.rows sz g rows)∧lo≤b)
theorem pI.toA {lo sz:Nat} {X:ae} {v:AV} {rows:List (List AV)} (h:pI lo sz X v rows):mG sz X v rows:=by
 rcases h with ⟨_,h⟩ | ⟨_,b,g,h1,h2,_⟩
 ·exact .inr (.inl h)
 ·exact .inr (.inr ⟨b,g,h1,h2⟩)
theorem pI.freeze {lo sz k d:Nat} {X:ae} {v:AV} {rows:List (List AV)} (h:pI lo sz X v rows) (hk:k≤lo) (hc:AV.closedss rows=true):aI X k (d+1) v=some (am (if rows.length≤1 then .exact else .loose) rows):=by
 rcases h with ⟨h1,rfl⟩ | ⟨h0,b,g,rfl,h2,h3⟩
 ·rw [if_pos h1]
  exact ak (v:=.lst rows true) (by simpa [AV.closed] using hc)
 ·rw [if_neg (by omega),dW h2 (by omega) hc]
  cases rows<;>rfl
theorem pI.cons {P:Program} {base lo:Nat} {ts:Array TypeId} {e e' sz by_:Nat} (h0:(ts[0]?).bind P.underlying=some (.slice e)) (h1:(ts[1]?).bind P.underlying=some (.slice e')) (hs:br P e=some sz) (hb:bytesOf P e=some by_)
 (hz:(aN P e).map (fun z=>z.cells.length)=some sz) (hp:0<sz) (hbl:base≤lo) {X:ae} (hX:lo≤X.length) {v:AV} {r:List AV} {rows:List (List AV)} (hv:pI lo sz X v rows)
 (hr:r.length=sz) (hy:∀q∈rows,q.length=sz) (hbound:(1+rows.length)*(by_+1)≤2^45) :
 ∃v' L,bg P base X ts (.lst [r] true) v.denil=some (v',X++L)∧pI lo sz (X++L) v' (r::rows):=by
 have hx:cq X (.slice e') v.denil=some rows:=by
  show cg _ _=_
  rcases hv with ⟨_,rfl⟩ | ⟨_,b,g,rfl,h,_⟩
  ·rfl
  ·simp [AV.denil,cg,h]
 by_cases hne:rows=[]
 ·subst hne
  refine ⟨.lst [r] true,[],?_,.inl ⟨by simp,rfl⟩⟩
  unfold bg
  simp [h0,h1,hs,hb,hx,hp,hz]
 ·obtain ⟨b,g,J',ha,hb',_,_⟩:=aQ.append (P:=P) (base:=base) (Z:=X) (J:=[]) (v:=.lst [r] true) (rows:=[r]) (ys:=rows) h0 h1 hs hb hz hp (by omega) (.lst [r]) (by simpa using hr) (by simpa using hx) hy hne (by simpa using hbound)
  rw [List.append_nil] at ha
  have hl:0<rows.length:=List.length_pos_iff.2 hne
  refine ⟨_,J',ha,.inr ⟨by simp;omega,X.length+b,g,by simp [Nat.add_comm],?_,by omega⟩⟩
  rw [bq];exact hb'
theorem mG.atF {P:Program} {t e:TypeId} {sz:Nat} (h:P.underlying t=some (.slice e)) (hs:br P e=some sz) {X:ae} {v:AV} {rows:List (List AV)} (hg:mG sz X v rows) {i:Nat} (hi:i<rows.length) (hr:rows[i].length=sz) (k:IntKind) :
 ∃a,aX P t v (.int k (i:Int))=some a∧∀off,off≤sz→∃a',bk a off=some a'∧∀t',i6 P X t' a'=fC P t' (rows[i].drop off):=by
 rcases hg with ⟨rfl,rfl⟩ | rfl | ⟨b,g,rfl,hb⟩
 ·simp at hi
 ·refine ⟨.eptr rows[i],?_,fun off ho=>⟨.eptr (rows[i].drop off),by rw [rD,if_pos (by omega)],fun t'=>by simp⟩⟩
  rw [ph h hs];simp [hi,hr]
 ·refine ⟨.ptr b g sz i 0,?_,fun off ho=>⟨.ptr b g sz i (0+off),sV _ _ _ _ _ _,fun t'=>?_⟩⟩
  ·rw [rQ h hs];simp [hi]
  ·rw [nB,gC hb];simp [hi]
def LA (l:List aG):SK:=if (gk l).length≤1 then .exact else .loose
theorem EF (O:List aG) (d:aC) {k:Nat} (h:k<O.length):px (O.take (k+1)) d=(px (O.take k) d||(decide (O[k].kind=7)&&dj O[k].over d)):=by
 unfold px
 rw [List.take_add_one,List.getElem?_eq_getElem h,List.any_append]
 simp
theorem DI (l:List aG) {j:Nat} (h:j<l.length) (hj:l.length-1-j<l.length):gk (l.drop (l.length-(j+1)))=vi l[l.length-1-j] (gk (l.drop (l.length-j))):=by
 have e1:l.length-(j+1)=l.length-1-j:=by omega
 have e2:l.length-1-j+1=l.length-j:=by omega
 rw [e1,List.drop_eq_getElem_cons hj,e2]
 rfl
set_option maxHeartbeats 4000000 in
theorem He (S:cC C σ) (hi:b9 σ) (hd:∀l,(σ.d l).Perm l) {s0:List ag} (P:fa s0) (h8:s0.length≤8) (k:SK):b8 Tryz.prog C 62 [] [am k (s0.map ag.cells)] (am (LA (cu s0 (d9 s0 s0.length []))) ((gk (cu s0 (d9 s0 s0.length []))).map aG.cells)):=by
 refine aw (S.pureX _ (by decide)) fun H=>aj Tryz.func62 rfl (S.prim _ (by decide)) (by simp) (by kernel_rfl) ?_
 unfold Tryz.f62
 have ho:=fl hd P.asc P.good.1 s0.length []
 have hh:=jn (σ:=σ) s0
 have hol:=eQ (σ:=σ) s0 s0.length []
 rw [←ho] at hh hol
 have e1:=(jy S.toaV s0 k ⟨h8,fun x hx=>(P.good.1 x hx).fit⟩).eq
 have e2:=(qx S hi P h8 k (gV (d9 s0 s0.length [])) hh (by simp at hol;omega)).eq
 have hol2:(d9 s0 s0.length []).length≤8:=by simp at hol;omega
 have hlen:=kq hi P hh
 have hov:∀x∈cu s0 (d9 s0 s0.length []),x.over.length≤2^20:=by
  intro x hx
  unfold cu at hx
  obtain ⟨w,hw,hxw⟩:=List.mem_flatten.1 hx
  obtain ⟨d,hdL,rfl⟩:=List.mem_map.1 hw
  have:=qq hi P x (m5 P (hh d hdL) x hxw)
  omega
 have hAl:(cu s0 (d9 s0 s0.length [])).length≤720000:=by
  have:90000*(d9 s0 s0.length []).length≤90000*8:=Nat.mul_le_mul_left _ hol2
  omega
 generalize cu s0 (d9 s0 s0.length [])=A at *
 clear hlen
 have w0:IntKind.i64.wrap ((A.length:Int)-1)=(A.length:Int)-1:=aO (by omega) (by omega)
 simp [aE,e1,e2,ah,w0]
 refine ay A.length (fun j s X=>s 3=am (gV A) (A.map aG.cells)∧s 5=.int .i64 ((A.length:Int)-1-j)∧H.length≤X.length∧pI H.length 172 X (s 4) ((gk (A.drop (A.length-j))).map aG.cells)) ?_ ?_
 ·exact ⟨rfl,by simp,Nat.le_refl _,.inl ⟨by simp [gk],by simp [gk]⟩⟩
 rintro j s X ⟨q3,q5,hX,hE⟩ hj
 by_cases h:j<A.length
 rotate_left
 ·have h':j=A.length:=by omega
  subst h'
  have q5:s 5=.int .i64 (-1):=by rw [q5];congr 1;omega
  rw [Nat.sub_self,List.drop_zero] at hE
  simp [q3,q5]
  have hf:=hE.freeze (k:=H.length) (d:=2) (Nat.le_refl _) (aH aG.closed _)
  rw [List.length_map] at hf
  exact hf
 obtain ⟨n,hn⟩:∃n,n=A.length-1-j:=⟨_,rfl⟩
 have hnA:n<A.length:=by omega
 have hnext:=DI A h (by omega)
 have q5:s 5=.int .i64 (n:Int):=by rw [q5];congr 1;omega
 have w1:IntKind.i64.wrap ((n:Int)-1)=(A.length:Int)-1-((j:Int)+1):=by rw [aO (by omega) (by omega)];omega
 have hEs:=(nl (A.drop (A.length-j))).length_le
 have hOo:∀x∈gk (A.drop (A.length-j)),x.over.length≤2^20:=fun x hx=>hov x (List.mem_of_mem_drop ((nl _).subset hx))
 rw [List.length_drop] at hEs
 simp only [←hn] at hnext
 obtain ⟨O2,hO2⟩:∃O2,O2=gk (A.drop (A.length-(j+1))):=⟨_,rfl⟩
 rw [←hO2] at hnext
 generalize gk (A.drop (A.length-j))=O at *
 obtain ⟨x,hx⟩:∃x,x=A[n]:=⟨_,rfl⟩
 rw [←hx] at hnext
 refine cut (fun s' X'=>X'=X∧s' 3=am (gV A) (A.map aG.cells)∧s' 5=.int .i64 (n:Int)∧s' 4=s 4) ?_ ?_
 ·simp [q3,q5]
 obtain ⟨v,hv⟩:∃v,v=s 4:=⟨_,rfl⟩
 rw [←hv] at hE ⊢
 clear q3 q5
 rintro s1 X1 ⟨rfl,q3,q5,q4⟩
 refine cut (fun s' X'=>s' 3=am (gV A) (A.map aG.cells)∧s' 5=.int .i64 (n:Int)∧H.length≤X'.length∧pI H.length 172 X' (s' 4) (O2.map aG.cells)) ?_ ?_
 rotate_left
 ·rintro s2 X2 ⟨q3,q5,hX2,hE2⟩
  simp [q3,q5,w1]
  rw [←hO2]
  exact ⟨h,hX2,hE2⟩
 rw [fI]
 refine cut (fun s' X'=>X'=X1∧s' 3=am (gV A) (A.map aG.cells)∧s' 5=.int .i64 (n:Int)∧s' 4=v∧s' 6=.bool true) ?_ ?_
 ·simp [q3,q5,q4]
 clear q3 q5 q4
 rintro s2 X2 ⟨rfl,q3,q5,q4,q6⟩
 refine cut (fun s' X'=>X'=X2∧s' 3=am (gV A) (A.map aG.cells)∧s' 5=.int .i64 (n:Int)∧s' 4=v∧s' 6=.bool (!px O x.id)) ?_ ?_
 ·have hlen4:=fun HH=>hE.toA.len (P:=Tryz.prog) (t:=89) (e:=72) (H:=HH) (by simp)
  rw [List.length_map] at hlen4
  simp
  refine ay O.length (fun m s' X'=>X'=X2∧s' 3=am (gV A) (A.map aG.cells)∧s' 5=.int .i64 (n:Int)∧s' 4=v∧s' 7=.int .i64 m∧s' 6=.bool (!px (O.take m) x.id)) ?_ ?_
  ·exact ⟨rfl,q3,q5,q4,rfl,q6⟩
  clear q3 q5 q4 q6
  rintro m s3 X3 ⟨rfl,q3,q5,q4,q7,q6⟩ hm
  by_cases hml:m<O.length
  ·obtain ⟨a,ha,hF⟩:=hE.toA.atF (P:=Tryz.prog) (t:=89) (e:=72) (i:=m) (by simp) kK (by simpa using hml) (by simp) .i64
   obtain ⟨a1,ha1,hl1⟩:=hF 33 (by decide)
   obtain ⟨a2,ha2,hl2⟩:=hF 171 (by decide)
   simp only [List.getElem_map] at hl1 hl2
   have ht:=EF O x.id hml
   have eI:=(rm S.toba O[m].over O[m].overK x.id (hOo _ (List.getElem_mem hml))).eq
   rw [show (O[m].over.any fun y=>aB y x.id)=dj O[m].over x.id from rfl] at eI
   have hm20:O.length≤2^30:=by omega
   by_cases h7:O[m].kind=7
   ·cases hh:dj O[m].over x.id with
    | true =>
     rw [hh] at eI ht
     simp [h7] at ht
     simp [q3,q5,q4,q7,q6,hlen4,hml,ha,ha1,ha2,hl1,hl2,h7,hnA,←hx,eI,an,au hml (by omega),ht]
    | false =>
     rw [hh] at eI ht
     simp [h7] at ht
     simp [q3,q5,q4,q7,q6,hlen4,hml,ha,ha1,ha2,hl1,hl2,h7,hnA,←hx,eI,an,au hml (by omega),ht]
   ·have h7b:(O[m].kind==7)=false:=by simpa using h7
    simp [h7] at ht
    simp [h7b,q3,q5,q4,q7,q6,hlen4,hml,ha,ha1,ha2,hl1,hl2,h7,hnA,←hx,an,au hml (by omega),ht]
  ·have hm':m=O.length:=by omega
   subst hm'
   rw [List.take_length] at q6
   simp [q3,q5,q4,q7,q6,hlen4]
 clear q3 q5 q4 q6
 rintro s3 X3 ⟨rfl,q3,q5,q4,q6⟩
 unfold vi at hnext
 cases hr:px O x.id with
 | true =>
  rw [hr,if_pos rfl] at hnext
  rw [hr] at q6
  simp [q3,q5,q4,q6]
  rw [hnext];exact ⟨hX,hE⟩
 | false =>
  rw [hr,if_neg (by simp)] at hnext
  rw [hr] at q6
  obtain ⟨v',L,hc,hE'⟩:=hE.cons (P:=Tryz.prog) (base:=H.length) (lo:=H.length) (ts:=#[89,89]) (e:=72) (e':=72) (r:=x.cells) (by simp) (by simp) kK od (by simp) (by decide) (Nat.le_refl _) hX (by simp) (by simp) (by simp;omega)
  simp [q3,q5,q4,q6,hnA,←hx,ah,aq,hc]
  exact ⟨by omega,by rw [hnext];exact hE'⟩
set_option maxRecDepth 100000 in
set_option maxHeartbeats 1000000 in
theorem yc (S:cC C σ) (hi:b9 σ) (hd:∀l,(σ.d l).Perm l) {s0:List ag} (P:fa s0) (h8:s0.length≤8) (k:SK) (id:aC):∃K,b8 Tryz.prog C 26 [] [am k (s0.map ag.cells),.agg id.cells] (am K ((ju s0 id).map aC.cells)):=by
 refine ⟨if (aU s0 id).isSome then (vd (gk (cu s0 (d9 s0 s0.length []))) id).1 else .nil,?_⟩
 refine aw (S.pureX _ (by decide)) fun H=>aj Tryz.func26 rfl (S.prim _ (by decide)) (by simp) (by kernel_rfl) ?_
 unfold Tryz.f26
 have ho:=fl hd P.asc P.good.1 s0.length []
 have hh:=jn (σ:=σ) s0
 have hol:=eQ (σ:=σ) s0 s0.length []
 rw [←ho] at hh hol
 have hlen:=kq hi P hh
 have hAl:(cu s0 (d9 s0 s0.length [])).length≤720000:=by
  have:90000*(d9 s0 s0.length []).length≤90000*8:=Nat.mul_le_mul_left _ (by simp at hol;omega)
  omega
 have hov:∀x∈cu s0 (d9 s0 s0.length []),x.over.length≤2^20:=by
  intro x hx
  unfold cu at hx
  obtain ⟨w,hw,hxw⟩:=List.mem_flatten.1 hx
  obtain ⟨d,hdL,rfl⟩:=List.mem_map.1 hw
  have:=qq hi P x (m5 P (hh d hdL) x hxw)
  omega
 have e1:=(nX S hi P h8 k id).eq
 have e2:=(He S hi hd P h8 k).eq
 have hel:=(nl (cu s0 (d9 s0 s0.length []))).length_le
 have e3:=(JR S (gk (cu s0 (d9 s0 s0.length []))) (LA (cu s0 (d9 s0 s0.length []))) id (by omega) (fun x hx=>hov x ((nl _).subset hx))).eq
 unfold ju
 generalize cu s0 (d9 s0 s0.length [])=A at *
 generalize gk A=B at *
 generalize LA A=KE at *
 generalize vd B id=D at *
 cases hf:aU s0 id with
 | none =>
  rw [hf] at e1
  simp [aE,e1,ao]
  rfl
 | some y =>
  rw [hf] at e1
  simp [aE,e1,e2,e3,ao]
  exact ak (bI (aH aC.closed _))
end Go.Proofs.Ev
