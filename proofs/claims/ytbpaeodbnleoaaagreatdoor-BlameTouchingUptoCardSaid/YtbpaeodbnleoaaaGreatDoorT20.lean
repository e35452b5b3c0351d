/- Part 20 of the proof that quiltlaw38.BlameTouching returns true: no statement of its own. -/
import Derived.Test.YtbpaeodbnleoaaaGreatDoorT19
import Derived.Test.YtbpaeodbnleoaaaGreatDoorT14
set_option linter.all false
namespace Go.Proofs.Ev
open Go.Proofs Go.Sort
variable {N:gA} {φ:fE} {H:ag} {w w':World}
theorem Ea {P:Program} {C:bG} (hS:C.Sound P N) {n:Nat} {f:FuncId} {av:List AV} {v:AV} (hf:(cD P C n 0 f av []).map (·.1)=some v) (hv:v.flat=true) (hH:HR N φ H w) {Vs:Array Value} (hargs:kN (fun v V=>RV φ H.length w v V) av Vs.toList) (hb:∀a∈av,pJ 0 a) :
 CallsIn (Fw none) 0 P f Vs w fun e w'=>∃V,e=.returned V∧RV φ H.length w' v V∧HR N φ H w'∧cj φ H.length w φ H.length w':=by
 obtain ⟨⟨v1,H1⟩,hf1,rfl⟩:=Option.map_eq_some_iff.1 hf
 obtain ⟨_,hc⟩:=(qR hS n).2.2.2.2.1 0 f av [] _ _ hf1
 have hall0:kN (fun v V=>RV (cI φ 0) 0 w v V) av Vs.toList:=by
  have h1:=hargs.get
  refine kN.of_get h1.1 fun i x y hx hy=>?_
  obtain ⟨V,h2,h3⟩:=h1.2 i x hx
  rw [h2] at hy;cases hy
  exact h3.cut (hb x (List.mem_of_getElem? hx))
 refine (hc (Nat.le_refl _) hH.empty hall0).mono ?_
 rintro e w' ⟨V,φ',rfl,hrv,h1,hx,hlow⟩
 have pres:∀(cb:Nat) (o:Obj),w.heap[cb]?=some o→w'.heap[cb]?=some o:=by
  intro cb o ho
  by_cases hr:φ.res cb
  ·exact hx.keep cb o hr ho
  ·exact hx.same cb o ho ⟨fun b L hL=>by simp [cI] at hL,hr⟩
 have hx2:cj φ H.length w φ H.length w':=cj.keeps hx.size pres hx.env
 exact ⟨V,rfl,hrv.flat hv,hH.keeps hx.size pres hx.env,hx2⟩
variable {α:Type} [Inhabited α]
noncomputable def iF (cf:α→α→Int) (l:List α):List α:=(pdq (ltOf cf) l.toArray 0 l.toArray.size (Lib.bitLen l.toArray.size) true true).toList
theorem kH {cf:α→α→Int} (hO:SWO (ltOf cf)) (l:List α):(iF cf l).Perm l:=by
 have h:=(pdq_sorts (ltOf cf) hO l.toArray 0 l.toArray.size (Lib.bitLen l.toArray.size) true true (Nat.zero_le _) (Nat.le_refl _) (Or.inl rfl)).1
 obtain ⟨h1,_,h3⟩:=h
 have e1:∀d:Array α,d.size=l.toArray.size→d.extract 0 l.toArray.size=d:=fun d hd=>by rw [←hd];simp
 rw [e1 _ h1,e1 _ rfl] at h3
 exact h3
theorem wH {cf:α→α→Int} (hO:SWO (ltOf cf)) (l:List α):(iF cf l).length=l.length:=(kH hO l).length_eq
open Classical in
noncomputable def lL (E:oP α) (cf:α→α→Int) (cmp:FuncId) (base:Nat) (args:List AV) (H:ag):Option (AV×ag) :=
 match args with
 | [.sl b g esz 0 len,.fn f []] =>
  if f=cmp∧esz=E.k∧base≤b∧len≤2^40 then
   match H[b]? with
   | some (.rows e g' rs) =>
    if h:∃l:List α,rs=l.map E.cells then
     if e=E.k∧g'=g∧rs.length=len then some (.tup [],H.set b (.rows E.k g ((iF cf (Classical.choose h)).map E.cells))) else none
    else none
   | _=>none
  else none
 | [.nils,.fn f []]=>if f=cmp then some (.tup [],H) else none
 | [.lst [] _,.fn f []]=>if f=cmp then some (.tup [],H) else none
 | _=>none
theorem uz (E:oP α) (hinj:∀x y,E.cells x=E.cells y→x=y) (cf:α→α→Int) (cmp:FuncId) {base b g:Nat} {H:ag} {l:List α} (hb:base≤b) (hl:l.length≤2^40) (hg:H[b]?=some (.rows E.k g (l.map E.cells))) :
 lL E cf cmp base [.sl b g E.k 0 l.length,.fn cmp []] H=some (.tup [],H.set b (.rows E.k g ((iF cf l).map E.cells))):=by
 have h:∃l':List α,l.map E.cells=l'.map E.cells:=⟨l,rfl⟩
 have hc:Classical.choose h=l:=by
  have:=Classical.choose_spec h
  exact (List.map_inj_right hinj).1 this.symm
 simp only [lL]
 rw [if_pos ⟨trivial,trivial,hb,hl⟩,hg]
 simp only
 rw [dif_pos h,if_pos ⟨trivial,trivial,by simp⟩,hc]
theorem yd {E:oP α} {cf:α→α→Int} {cmp f:FuncId} (hO:SWO (ltOf cf)) (hT:fC Tryz.prog N) (hfn:∃fn:Func,Tryz.prog.funcs[f]?=some fn∧fn.body.isSome=true)
 (h0:∀v,v=AV.nils∨v=.lst [] true∨v=.lst [] false→(cD Tryz.prog D6 100 0 f [v,.fn cmp []] []).map (·.1)=some (.tup []))
 (hs:∀(blk cap:Nat) (d:Array α) (w:World),HoldsK E.enc E.k w blk 0 d→blk<w.heap.size→d.size<4611686018427387904→
  Calls Tryz.prog f #[.slice (some ⟨blk,0,none⟩) d.size cap,.func (.func cmp) #[] #[]] w fun e w'=>e=.returned (.tuple #[])∧∃n os,w'=sortWorldK E.enc E.k w blk 0 n (pdq (ltOf cf) d 0 d.size (Lib.bitLen d.size) true true) os) :
 fZ Tryz.prog N f (lL E cf cmp):=by
 refine ⟨hfn,fun base args H v H' h φ w Vs hb hH ht=>?_⟩
 unfold lL at h
 have empt:∀a,(a=AV.nils∨a=.lst [] true∨a=.lst [] false)→kN (fun v V=>RV φ H.length w v V) [a,.fn cmp []] Vs.toList→
  CallsIn (Fw none) 0 Tryz.prog f Vs w fun e w'=>∃V φ',e=.returned V∧RV φ' H.length w' (.tup []) V∧HR N φ' H w'∧cj φ H.length w φ' H.length w'∧∀b,b<base→H[b]?=H[b]?:=by
  intro a ha ht
  refine (Ea (jh hT) (h0 a ha) rfl hH ht ?_).mono ?_
  ·intro x hx
   simp only [List.mem_cons,List.not_mem_nil,or_false] at hx
   rcases hx with rfl | rfl
   ·rcases ha with rfl | rfl | rfl
    ·exact .nils
    ·exact .lst fun i row hi=>by simp at hi
    ·exact .lst fun i row hi=>by simp at hi
   ·exact .fn fun j v hj=>by simp at hj
  ·rintro e w' ⟨V,rfl,h1,h2,h3⟩
   exact ⟨V,φ,rfl,h1,h2,h3,fun _ _=>rfl⟩
 split at h
 ·rename_i b g esz len f'
  split at h
  ·rename_i hc
   obtain ⟨rfl,rfl,hbb,hlen⟩:=hc
   split at h
   ·rename_i e g' rs hblk
    split at h
    ·rename_i hl
     split at h
     ·rename_i hc2
      obtain ⟨rfl,rfl,rfl⟩:=hc2
      cases h
      have hsp:=Classical.choose_spec hl
      generalize Classical.choose hl=l at *
      subst hsp
      obtain ⟨X,Y,rfl,h1,h2⟩:=yj ht
      obtain ⟨L,cs,T,fr,e1,e2,e3,e4,e5,e6⟩:=hH.rows _ _ _ _ hblk
      cases h2 with
      | fn hz hcaps =>
       rename_i Cs
       have hC:Cs=#[]:=by simpa using hz
       subst hC
       cases h1 with
       | sl hbn hcap hh =>
        rename_i cap a
        obtain ⟨ha,_⟩:=(hh L e1).2 e2.symm
        simp only [Nat.zero_mul] at ha
        subst ha
        have hll:l.length≤2^40:=by simpa using hlen
        have hcall:=hs L.cb cap l.toArray w (E.holds hH hblk e1) (hH.base b L e1).2 (by simp only [List.size_toArray];omega)
        simp only [List.size_toArray] at hcall
        rw [List.length_map]
        refine (callsIn_wide.2 hcall:CallsIn (Fw none) 0 _ _ _ _ _).mono ?_
        rintro e w' ⟨rfl,n,os,rfl⟩
        obtain ⟨r1,r2⟩:=E.lay hH hblk (wH hO l) e1 n os
        have hs2:(iF cf l).toArray=pdq (ltOf cf) l.toArray 0 l.length (Lib.bitLen l.length) true true:=by simp [iF]
        rw [hs2] at r1 r2
        refine ⟨_,φ,rfl,.tup rfl (fun j v V hj=>by simp at hj),?_,?_,fun k hk=>List.getElem?_set_ne (by omega)⟩
        ·exact r1
        ·simpa using r2
     ·cases h
    ·cases h
   ·cases h
  ·cases h
 ·split at h
  ·rename_i hc;subst hc;cases h
   exact empt _ (.inl rfl) ht
  ·cases h
 ·rename_i x f'
  split at h
  ·rename_i hc;subst hc;cases h
   cases x
   ·exact empt _ (.inr (.inr rfl)) ht
   ·exact empt _ (.inr (.inl rfl)) ht
  ·cases h
 ·cases h
def IY:oP aI:=⟨aI.cells,33,by decide,fun x=>by simp,fun x v hv=>by
 rcases List.mem_append.1 (show v∈dig x.d++[.int .i64 x.n] from hv) with h | h
 ·obtain ⟨n,_,rfl⟩:=List.mem_map.1 h;exact ⟨_,_,rfl⟩
 ·exact ⟨_,_,List.mem_singleton.1 h⟩⟩
def vf:oP ar:=⟨ar.cells,32,by decide,fun x=>by simp,fun x v hv=>by
 obtain ⟨n,_,rfl⟩:=List.mem_map.1 (show v∈dig x.d from hv);exact ⟨_,_,rfl⟩⟩
theorem yW (x:ar):vf.enc x=fu x.d:=by
 show (dig x.d).map nQ=_
 simp [dig,fu,nQ]
theorem Dj (x:aI):IY.enc x=kq x:=by
 show (dig x.d++[AV.int .i64 x.n]).map nQ=_
 simp [dig,fu,kq,nQ]
instance:Inhabited aI:=⟨aO⟩
instance:Inhabited ar:=⟨⟨aP,by decide,by decide⟩⟩
theorem ar.cells_inj (x y:ar) (h:vf.cells x=vf.cells y):x=y:=by
 have h1:Ev.dig x.d=Ev.dig y.d:=h
 have h2:x.d=y.d:=by
  have hi:Function.Injective (fun n:Nat=>AV.int .u8 (n:Int)):=fun a b hab=>Int.ofNat_inj.1 (by simpa using hab)
  exact (List.map_inj_right hi).1 h1
 cases x;cases y;cases h2;rfl
theorem aI.cells_inj (x y:aI) (h:IY.cells x=IY.cells y):x=y:=by
 have h1:Ev.dig x.d++[AV.int .i64 x.n]=Ev.dig y.d++[AV.int .i64 y.n]:=h
 obtain ⟨h2,h3⟩:=List.append_inj h1 (by simp [Ev.dig,x.h,y.h])
 have h4:x.d=y.d:=by
  have hi:Function.Injective (fun n:Nat=>AV.int .u8 (n:Int)):=fun a b hab=>Int.ofNat_inj.1 (by simpa using hab)
  exact (List.map_inj_right hi).1 h2
 have h5:x.n=y.n:=by simpa using h3
 cases x;cases y;cases h4;cases h5;rfl
set_option maxRecDepth 100000 in
theorem Iq (hT:fC Tryz.prog N):fZ Tryz.prog N 166 (lL IY dA 61):=by
 refine yd pF hT ⟨_,Tryz.func166,rfl⟩ (fun v hv=>by rcases hv with rfl | rfl | rfl<;>kernel_rfl) fun blk cap d w hH hblk hsz=>?_
 refine AnyQ.slices_SortFunc_eq Tryz.laysSortI 33 (fun w=>Tryz.isAgg27 w) (fun w=>Tryz.sizeOf27 w) IY.enc IY.enc_len IY.one dA pF 61 #[] blk 0 cap d w ?_ ?_ hH hblk hsz
 ·exact tP (jh hT) Tryz.func61 rfl
 ·intro m os dk hs x y
  rw [Dj,Dj]
  exact callsIn_wide.1 (D2 x y _)
set_option maxRecDepth 100000 in
theorem Io (hT:fC Tryz.prog N):fZ Tryz.prog N 68 (lL vf (fun a b=>bZ a.d b.d) 69):=by
 refine yd od hT ⟨_,Tryz.func68,rfl⟩ (fun v hv=>by rcases hv with rfl | rfl | rfl<;>kernel_rfl) fun blk cap d w hH hblk hsz=>?_
 refine AnyQ.slices_SortFunc_eq Tryz.laysSortD 32 (fun w=>Tryz.isAgg25 w) (fun w=>Tryz.sizeOf25 w) vf.enc vf.enc_len vf.one (fun a b=>bZ a.d b.d) od 69 #[] blk 0 cap d w ?_ ?_ hH hblk hsz
 ·exact tP (jh hT) Tryz.func69 rfl
 ·intro m os dk hs x y
  rw [yW,yW]
  exact callsIn_wide.1 (D0 x.d y.d x.h y.h x.b y.b _)
end Go.Proofs.Ev
namespace Go.Proofs.Ev
open Go.Proofs
theorem ar.ext' {a b:ar} (h:a.d=b.d):a=b:=by cases a;cases b;cases h;rfl
theorem tJ:∀(l:List ar) (a b:ar),bO (l++[a,b])=if a.d=b.d then bO (l++[a]) else bO (l++[a])++[b]
 | [],a,b=>by
  show bO [a,b]=if a.d=b.d then bO [a] else bO [a]++[b]
  simp only [bO]
  split
  ·rename_i h;rw [ar.ext' h]
  ·rfl
 | x::l,a,b=>by
  have ih:=tJ l a b
  obtain ⟨y,r,hr⟩:∃y r,l++[a]=y::r:=by cases l with
   | nil=>exact ⟨_,_,rfl⟩
   | cons y l=>exact ⟨_,_,rfl⟩
  have hr2:l++[a,b]=y::(r++[b]):=by
   have:l++[a,b]=(l++[a])++[b]:=by simp
   rw [this,hr];rfl
  rw [hr,hr2] at ih
  rw [List.cons_append,List.cons_append,hr,hr2,bO,bO,ih]
  by_cases h1:x.d=y.d<;>by_cases h2:a.d=b.d<;>simp [h1,h2]
theorem tK {l:List ar} {m:Nat} (h0:1≤m) (h:m<l.length):bO (l.take (m+1))=if l[m].d=l[m-1].d then bO (l.take m) else bO (l.take m)++[l[m]]:=by
 obtain ⟨k,rfl⟩:∃k,m=k+1:=⟨m-1,by omega⟩
 have e1:l.take (k+1)=l.take k++[l[k]]:=by rw [List.take_add_one,List.getElem?_eq_getElem (by omega)];rfl
 have e2:l.take (k+1+1)=l.take k++[l[k],l[k+1]]:=by rw [List.take_add_one,List.getElem?_eq_getElem h,e1,List.append_assoc];rfl
 rw [e2,tJ,e1]
 simp only [Nat.add_sub_cancel]
 by_cases hq:l[k].d=l[k+1].d
 ·rw [if_pos hq,if_pos hq.symm]
 ·rw [if_neg hq,if_neg (Ne.symm hq)]
def D7:bG:=⟨fun _=>none,fun _=>false,fun _=>false,fun t=>if t=25 then some (List.replicate 32 (.int .u8)) else none⟩
theorem Jt (a b:List Nat) (ha:a.length=32) (hb:b.length=32):pI Tryz.prog D7 25 (.agg (dig a)) (.agg (dig b))=some (decide (a=b)):=by
 have h1:=gq a;rw [ha] at h1
 have h2:=gq b;rw [hb] at h2
 simp only [pI,D7,if_true,h1,h2,Bool.and_self,jy a b (by omega)]
def gH (l:List ar) (m:Nat):List (List AV):=(bO (l.take m)++l.drop (bO (l.take m)).length).map ar.cells
theorem Ed (l:List ar) {m:Nat} (hm:m≤l.length):(gH l m).length=l.length:=by
 have:=(qY (l.take m)).1
 simp [gH] at this ⊢
 omega
theorem qZ (l:List ar) {m j:Nat} (hj:(bO (l.take m)).length≤j) (h:j<l.length):(gH l m)[j]?=some l[j].cells:=by
 unfold gH
 rw [List.getElem?_map,List.getElem?_append_right hj,List.getElem?_drop,show (bO (l.take m)).length+(j-(bO (l.take m)).length)=j by omega,List.getElem?_eq_getElem h]
 rfl
theorem Ee (l:List ar) {m:Nat} (hm:m<l.length) (hc:(bO (l.take m)).length<l.length) (hn:bO (l.take (m+1))=bO (l.take m)++[l[m]]) :
 (gH l m).set (bO (l.take m)).length (dig l[m].d)=gH l (m+1):=by
 unfold gH
 rw [hn]
 generalize bO (l.take m)=c at *
 rw [List.map_append,List.set_append_right _ _ (by simp),List.length_map,Nat.sub_self,List.drop_eq_getElem_cons hc,List.map_cons,List.set_cons_zero]
 simp
 rfl
theorem xy {k n:Nat} (h:k<n):ii (.int .i64 (k:Int)) n=some k:=by
 unfold ii
 simp only
 rw [if_pos ⟨by omega,by omega⟩];simp
theorem DG {b g len k:Nat} (h:k<len):cX Tryz.prog 30 (.sl b g 32 0 len) (some (.int .i64 (k:Int))) none none=some (.sl b g 32 k (len-k)):=by
 have hu:Program.underlying Tryz.prog 30=some (.slice 25):=by simp
 unfold cX
 simp only [hu,nN,if_true,bJ,xy (show k<len+1 by omega),Option.map_some,Nat.zero_add]
 rw [if_neg (by omega)]
theorem OW {b g len k:Nat} (h0:0<k) (h:k≤len):cX Tryz.prog 30 (.sl b g 32 0 len) none (some (.int .i64 (k:Int))) none=some (.sl b g 32 0 k):=by
 have hu:Program.underlying Tryz.prog 30=some (.slice 25):=by simp
 unfold cX
 simp only [hu,nN,if_true,bJ,xy (show k<len+1 by omega),Option.map_some,Nat.zero_add,Nat.sub_zero]
 rw [if_neg (by omega)]
set_option maxRecDepth 100000 in
set_option maxHeartbeats 2000000 in
theorem xf {base:Nat} {H:ag} {b g:Nat} {l:List ar} (hb:base≤b) (hg:H[b]?=some (.rows 32 g (l.map ar.cells))) (hl:l.length≤2^40) :
 dW Tryz.prog D7 base 125 [.sl b g 32 0 l.length] H fun v X=>v=.sl b g 32 0 (bO l).length∧X=H.set b (.rows 32 g ((bO l).map ar.cells++List.replicate (l.length-(bO l).length) (dig aP))):=by
 refine am Tryz.func125 rfl rfl (by simp) (by kernel_rfl) ?_
 unfold Tryz.f125
 have hset:H.set b (.rows 32 g (l.map ar.cells))=H:=by
  apply List.ext_getElem?
  intro k
  by_cases hk:b=k
  ·subst hk
   rw [List.getElem?_set_self (List.getElem?_eq_some_iff.1 hg).1,hg]
  ·rw [List.getElem?_set_ne hk]
 have same:bO l=l→l.length=(bO l).length∧H=H.set b (.rows 32 g ((bO l).map ar.cells++List.replicate (l.length-(bO l).length) (dig aP))):=by
  intro hc
  rw [hc]
  refine ⟨rfl,?_⟩
  rw [Nat.sub_self,List.replicate_zero,List.append_nil,hset]
 have hbin:∀(x y:ar) (neg:Bool),bU Tryz.prog D7 (if neg then .neq else .eql) 25 (.agg (dig x.d)) (.agg (dig y.d))=some (.bool (if neg then !decide (x.d=y.d) else decide (x.d=y.d))):=by
  intro x y neg
  have:=Jt x.d y.d x.h y.h
  cases neg<;>simp [bU,this]
 have hE:=fun x y=>hbin x y false
 have hN:=fun x y=>hbin x y true
 simp only [if_true,Bool.false_eq_true,if_false] at hE hN
 simp [aG]
 refine ⟨fun h2=>?_,fun h2=>?_⟩
 ·refine same ?_
  match l,h2 with
  | [],_=>rfl
  | [a],_=>rfl
  | a::b::l,h=>simp at h;omega
 have h2':2≤l.length:=by omega
 refine az l.length (fun i s X=>s 0=.sl b g 32 0 l.length∧s 3=.int .i64 ((i:Int)+1)∧X=H∧i+1≤l.length∧bO (l.take (i+1))=l.take (i+1)) ?_ ?_
 ·refine ⟨rfl,rfl,rfl,by omega,?_⟩
  match l with
  | []=>rfl
  | a::l=>rfl
 rintro i s X ⟨q0,q3,rfl,hil,hcl⟩ hi
 by_cases h:i+1<l.length
 ·have hi0:i<l.length:=by omega
  have r1:ax X b g 32 (i+1)=some (dig l[i+1].d):=by rw [eL hg];simp [h];rfl
  have r0:ax X b g 32 i=some (dig l[i].d):=by rw [eL hg];simp [hi0];rfl
  have hlt:(i:Int)+1<l.length:=by omega
  have w0:IntKind.i64.wrap (i:Int)=i:=gy (by omega)
  have w1:IntKind.i64.wrap ((i:Int)+1+1)=(i:Int)+1+1:=aK (by omega) (by omega)
  have d1:l[i+1].d.length=32:=l[i+1].h
  have d0:l[i].d.length=32:=l[i].h
  have t1:List.take 32 (dig l[i+1].d)=dig l[i+1].d:=List.take_of_length_le (by simp [dig,d1])
  have t0:List.take 32 (dig l[i].d)=dig l[i].d:=List.take_of_length_le (by simp [dig,d0])
  have hp:(0:Int)≤(i:Int)+1:=by omega
  have hil2:(i:Int)<l.length:=by omega
  have ht:=tK (l:=l) (m:=i+1) (by omega) h
  simp only [Nat.add_sub_cancel] at ht
  by_cases he:l[i+1].d=l[i].d
  ·rw [if_pos he,hcl] at ht
   have hle:(i:Int)+1≤l.length:=by omega
   have hne:¬(l.length=i+1):=by omega
   have sl1:=DG (b:=b) (g:=g) h
   have hcast:((i+1:Nat):Int)=(i:Int)+1:=by omega
   rw [hcast] at sl1
   simp [q0,q3,hlt,r1,r0,hE,w0,d0,t0,hp,hil2,he,sl1]
   obtain ⟨K,hK⟩:∃K,K=i+1:=⟨_,rfl⟩
   have hKi:(i:Int)+1=(K:Int):=by omega
   rw [hKi]
   rw [←hK] at ht h ⊢
   have hb0:b<X.length:=(List.getElem?_eq_some_iff.1 hg).1
   have hKl:(bO (l.take (K+1))).length=K:=by rw [ht,List.length_take];omega
   clear sl1 hcast w0 w1 hp hil2 hcl hlt
   rw [hKi] at q3
   refine az l.length (fun j s Y=>s 0=.sl b g 32 0 l.length∧s 4=.sl b g 32 K (l.length-K)∧s 5=.int .i64 ((j:Int)+1)∧s 3=.int .i64 ((bO (l.take (K+j+1))).length:Nat)∧Y=X.set b (.rows 32 g (gH l (K+j+1)))∧K+j+1≤l.length∧(bO (l.take (K+j+1))).length≤K+j∧0<(bO (l.take (K+j+1))).length) ?_ ?_
   ·refine ⟨by simpa using q0,by simp,by simp,?_,?_,by omega,?_,?_⟩
    ·rw [Nat.add_zero,hKl];simpa using q3
    ·rw [Nat.add_zero]
     unfold gH
     rw [hKl,ht,List.take_append_drop,hset]
    ·rw [Nat.add_zero,hKl];omega
    ·rw [Nat.add_zero,hKl];omega
   rintro j s Y ⟨q0,q4,q5,q3,rfl,hm,hc1,hc0⟩ hj
   have hX:(X.set b (.rows 32 g (gH l (K+j+1))))[b]?=some (.rows 32 g (gH l (K+j+1))):=by rw [List.getElem?_set_self hb0]
   obtain ⟨c,hcd⟩:∃c,c=(bO (l.take (K+j+1))).length:=⟨_,rfl⟩
   rw [←hcd] at q3 hc1 hc0
   have hlk:((l.length-K:Nat):Int)=(l.length:Int)-K:=by omega
   by_cases hj2:j+1<l.length-K
   ·have hm2:K+j+1<l.length:=by omega
    have hm0:K+j<l.length:=by omega
    have r1:ax (X.set b (.rows 32 g (gH l (K+j+1)))) b g 32 (K+(j+1))=some (dig l[K+j+1].d):=by
     rw [eL hX];exact qZ l (by omega) hm2
    have r0:ax (X.set b (.rows 32 g (gH l (K+j+1)))) b g 32 (K+j)=some (dig l[K+j].d):=by
     rw [eL hX];exact qZ l (by omega) hm0
    have hlt:(j:Int)+1<((l.length-K:Nat):Int):=by omega
    have w0:IntKind.i64.wrap (j:Int)=j:=gy (by omega)
    have w1:IntKind.i64.wrap ((j:Int)+1+1)=(j:Int)+1+1:=aK (by omega) (by omega)
    have w2:IntKind.i64.wrap ((c:Int)+1)=(c:Int)+1:=aK (by omega) (by omega)
    have d1:l[K+j+1].d.length=32:=l[K+j+1].h
    have d0:l[K+j].d.length=32:=l[K+j].h
    have t1:List.take 32 (dig l[K+j+1].d)=dig l[K+j+1].d:=List.take_of_length_le (by simp [dig,d1])
    have t0:List.take 32 (dig l[K+j].d)=dig l[K+j].d:=List.take_of_length_le (by simp [dig,d0])
    have hp:(0:Int)≤(j:Int)+1:=by omega
    have hjl:(j:Int)<((l.length-K:Nat):Int):=by omega
    have ht:=tK (l:=l) (m:=K+j+1) (by omega) hm2
    simp only [Nat.add_sub_cancel] at ht
    have hcl:(c:Int)<l.length:=by omega
    by_cases he:l[K+j+1].d=l[K+j].d
    ·rw [if_pos he] at ht
     have hR:gH l (K+j+1+1)=gH l (K+j+1):=by unfold gH;rw [ht]
     simp [q0,q3,q4,q5,hlt,r1,r0,hN,w0,w1,d0,t0,hp,hjl,he]
     rw [show K+(j+1)+1=K+j+1+1 by omega,ht,hR,←hcd]
     exact ⟨by omega,rfl,rfl,by omega,by omega,by omega⟩
    ·rw [if_neg he] at ht
     have hcl2:c<l.length:=by omega
     have hst:ao Tryz.prog base (X.set b (.rows 32 g (gH l (K+j+1)))) 25 (.ptr b g 32 c 0) (.agg (dig l[K+j+1].d))=some (X.set b (.rows 32 g (gH l (K+j+1+1)))):=by
      have hrow:(gH l (K+j+1))[c]?=some (dig l[c].d):=qZ l (by omega) hcl2
      have hl32:(dig l[c].d).length=32:=by simp [dig,l[c].h]
      have hlf:∀y∈dig l[K+j+1].d,y.leaf=true:=by intro y hy;obtain ⟨n,_,rfl⟩:=List.mem_map.1 hy;rfl
      have hcs:=Ee l hm2 (by rw [←hcd];exact hcl2) ht
      rw [←hcd] at hcs
      have hdr:List.drop 32 (dig l[c].d)=[]:=List.drop_eq_nil_of_le (by omega)
      have hd32:(dig l[K+j+1].d).length=32:=by simp [dig,d1]
      unfold ao
      simp only [nN,AV.cells,hX,hrow,hl32,hd32]
      rw [if_pos ⟨hb,trivial,by rw [List.all_eq_true];exact hlf⟩,if_pos ⟨trivial,trivial⟩,if_pos (by omega),List.take_zero,List.nil_append,Nat.zero_add,hdr,List.append_nil,hcs,List.set_set]
     simp [q0,q3,q4,q5,hlt,r1,r0,hN,w0,w1,w2,d1,d0,t1,t0,hp,hjl,he,hcl,hst]
     rw [show K+(j+1)+1=K+j+1+1 by omega,ht,List.length_append,←hcd]
     exact ⟨by omega,by simp,rfl,by omega,by simp;omega,by simp⟩
   ·have hend:K+j+1=l.length:=by omega
    have hlt:¬((j:Int)+1<((l.length-K:Nat):Int)):=by omega
    have htl:l.take (K+j+1)=l:=List.take_of_length_le (by omega)
    rw [htl] at hcd
    have hcn:c<l.length:=by omega
    have sl1:=DG (b:=b) (g:=g) hcn
    have sl2:=OW (b:=b) (g:=g) hc0 (Nat.le_of_lt hcn)
    have hcr:gH l (K+j+1)=(bO l++l.drop c).map ar.cells:=by unfold gH;rw [htl,←hcd]
    have hclr:mf Tryz.prog base (X.set b (.rows 32 g (gH l (K+j+1)))) 30 (.sl b g 32 c (l.length-c))=some (X.set b (.rows 32 g ((bO l).map ar.cells++List.replicate (l.length-c) (dig aP)))):=by
     have hu:Program.underlying Tryz.prog 30=some (.slice 25):=by simp
     have hz:aQ Tryz.prog 25=some (.agg (dig aP)):=by simp
     have hrl:=Ed l hm
     unfold mf
     simp only [hu,hX,nN,hz,AV.cells]
     rw [if_pos ⟨hb,trivial,trivial,trivial,by decide,by omega,by omega,by decide⟩,List.set_set,hcr,List.map_append,List.take_left' (by rw [List.length_map];exact hcd.symm)]
    simp [q0,q3,q4,q5,hlt,sl1,sl2,hclr,xS]
    exact ⟨hcd,by rw [hcd]⟩
  ·rw [if_neg he,hcl] at ht
   simp [q0,q3,hlt,r1,r0,hE,w0,w1,d1,d0,t1,t0,hp,hil2,he]
   refine ⟨by omega,by omega,?_⟩
   rw [ht,List.take_add_one (i:=i+1),List.getElem?_eq_getElem h];rfl
 ·have hlt:¬((i:Int)+1<l.length):=by omega
  have hc:bO l=l:=by rw [List.take_of_length_le (by omega)] at hcl;exact hcl
  simp [q0,q3,hlt]
  exact same hc
noncomputable def nB (base:Nat) (args:List AV) (H:ag):Option (AV×ag):=sb Tryz.prog D7 125 base args H
theorem Bl {base:Nat} {H:ag} {b g:Nat} {l:List ar} (hb:base≤b) (hg:H[b]?=some (.rows 32 g (l.map ar.cells))) (hl:l.length≤2^40) :
 nB base [.sl b g 32 0 l.length] H=some (.sl b g 32 0 (bO l).length,H.set b (.rows 32 g ((bO l).map ar.cells++List.replicate (l.length-(bO l).length) (dig aP)))):=tQ (xf hb hg hl)
theorem yS (base:Nat) (H:ag):nB base [.lst [] true] H=some (.lst [] true,H):=by
 refine tQ (am Tryz.func125 rfl rfl (by simp) (by kernel_rfl) ?_)
 unfold Tryz.f125
 simp [aG]
theorem Bc {N:gA} (hT:fC Tryz.prog N):D7.Sound Tryz.prog N:={
 fits:=⟨fun t ks h=>by
  change (if t=25 then some (List.replicate 32 (LK.int .u8)) else none)=some ks at h
  split at h
  ·rename_i ht;subst ht;cases h;exact ⟨by kernel_rfl,by kernel_rfl,by kernel_rfl⟩
  ·cases h⟩
 mixed:=by kernel_rfl
 tag:=hT
 names:=qu
 prim _ _ h:=by cases h }
theorem Bm {N:gA} (hT:fC Tryz.prog N):fZ Tryz.prog N 125 nB :=
 zk (Bc hT) ⟨_,Tryz.func125,rfl⟩
end Go.Proofs.Ev
namespace Go.Proofs.Ev
open Go.Proofs
variable {C:bG} {σ:aZ}
structure bB (C:bG) (σ:aZ):Prop extends j9 C σ where
 pureS:∀f,f∈[102,143,82,100,31,70,
  56,105,55,103,104,11,53,101]→C.pure f=true
 plainS:∀f,f∈[29]→C.pure f=false∧C.frz f=false
def jA {α:Type} (q:α→Bool):List α→Nat→Int
 | [],_=>-1
 | x::l,i=>if q x then (i:Int) else jA q l (i+1)
theorem jY {α:Type} (q:α→Bool):∀(l:List α) (i:Nat),(∀x,l.find? q=some x→∃j,jA q l i=((i+j:Nat):Int)∧l[j]?=some x)∧(l.find? q=none→jA q l i = -1)
 | [],i=>by simp [jA]
 | x::l,i=>by
  have ih:=jY q l (i+1)
  rw [jA,List.find?_cons]
  cases hq:q x with
  | true=>simp;exact ⟨0,by simp⟩
  | false =>
   simp only [Bool.false_eq_true,if_false]
   refine ⟨fun y hy=>?_,ih.2⟩
   obtain ⟨j,h1,h2⟩:=ih.1 y hy
   exact ⟨j+1,by rw [h1];omega,h2⟩
theorem Dl {α:Type} (q:α→Bool) (l:List α) (i:Nat):(0≤jA q l i)↔(l.find? q).isSome=true:=by
 cases h:l.find? q with
 | none=>rw [(jY q l i).2 h];simp
 | some x=>obtain ⟨j,h1,_⟩:=(jY q l i).1 x h;rw [h1];simp;omega
theorem v8 (S:bB C σ) {base:Nat} {H:ag} {k:SK} {l:List ah} {f:AV} {q:ah→Bool} (hl:l.length≤2^40) (hf:∀x∈l,∀(base:Nat) (K:AV→ag→Prop),aD Tryz.prog C base f [.agg x.cells] H K=K (.bool (q x)) H) (K:AV→ag→Prop) :
 aD Tryz.prog C base (.fn 102 []) [aw k (l.map ah.cells),f] H K=K (.int .i64 (jA q l 0)) H:=by
 refine aD.eq (d5 (S.pureS _ (by decide)) (am Tryz.func102 rfl (S.prim _ (by decide)) (by simp) (by kernel_rfl) ?_)) K
 unfold Tryz.f102
 simp [aG]
 refine az l.length (fun i s H'=>s 0=aw k (l.map ah.cells)∧s 1=f∧s 7=.int .i64 l.length∧s 8=.int .i64 i∧H'=H∧jA q l 0=jA q (l.drop i) i) ?_ ?_
 ·exact ⟨rfl,rfl,rfl,rfl,rfl,rfl⟩
 rintro i s H' ⟨q0,q1,q7,q8,rfl,hc⟩ hi
 by_cases h:i<l.length
 ·rw [List.drop_eq_getElem_cons h,jA] at hc
  have ef:=hf l[i] (List.getElem_mem h) H'.length
  cases hq:q l[i] with
  | true =>
   rw [hq,if_pos rfl] at hc
   rw [hq] at ef
   simp [q0,q1,q7,q8,h,hc,ef]
  | false =>
   rw [hq,if_neg (by decide)] at hc
   rw [hq] at ef
   simp [q0,q1,q7,q8,h,hc,ef,ay h (by omega)]
 ·have h':i=l.length:=by omega
  subst h'
  rw [List.drop_length,jA] at hc
  simp [q0,q1,q7,q8,hc]
theorem Ez (S:bB C σ) {base:Nat} {H:ag} {k:SK} {l:List ar} {f:AV} {q:ar→Bool} (hl:l.length≤2^40) (hf:∀x∈l,∀(base:Nat) (K:AV→ag→Prop),aD Tryz.prog C base f [.agg x.cells] H K=K (.bool (q x)) H) (K:AV→ag→Prop) :
 aD Tryz.prog C base (.fn 143 []) [aw k (l.map ar.cells),f] H K=K (.int .i64 (jA q l 0)) H:=by
 refine aD.eq (d5 (S.pureS _ (by decide)) (am Tryz.func143 rfl (S.prim _ (by decide)) (by simp) (by kernel_rfl) ?_)) K
 unfold Tryz.f143
 simp [aG]
 refine az l.length (fun i s H'=>s 0=aw k (l.map ar.cells)∧s 1=f∧s 7=.int .i64 l.length∧s 8=.int .i64 i∧H'=H∧jA q l 0=jA q (l.drop i) i) ?_ ?_
 ·exact ⟨rfl,rfl,rfl,rfl,rfl,rfl⟩
 rintro i s H' ⟨q0,q1,q7,q8,rfl,hc⟩ hi
 by_cases h:i<l.length
 ·rw [List.drop_eq_getElem_cons h,jA] at hc
  have ef:=hf l[i] (List.getElem_mem h) H'.length
  cases hq:q l[i] with
  | true =>
   rw [hq,if_pos rfl] at hc
   rw [hq] at ef
   simp [q0,q1,q7,q8,h,hc,ef]
  | false =>
   rw [hq,if_neg (by decide)] at hc
   rw [hq] at ef
   simp [q0,q1,q7,q8,h,hc,ef,ay h (by omega)]
 ·have h':i=l.length:=by omega
  subst h'
  rw [List.drop_length,jA] at hc
  simp [q0,q1,q7,q8,hc]
theorem Ey (S:bB C σ) {base:Nat} {H:ag} {k:SK} {l:List aH} {f:AV} {q:aH→Bool} (hl:l.length≤2^40) (hf:∀x∈l,∀(base:Nat) (K:AV→ag→Prop),aD Tryz.prog C base f [.agg x.cells] H K=K (.bool (q x)) H) (K:AV→ag→Prop) :
 aD Tryz.prog C base (.fn 100 []) [aw k (l.map aH.cells),f] H K=K (.int .i64 (jA q l 0)) H:=by
 refine aD.eq (d5 (S.pureS _ (by decide)) (am Tryz.func100 rfl (S.prim _ (by decide)) (by simp) (by kernel_rfl) ?_)) K
 unfold Tryz.f100
 simp [aG]
 refine az l.length (fun i s H'=>s 0=aw k (l.map aH.cells)∧s 1=f∧s 7=.int .i64 l.length∧s 8=.int .i64 i∧H'=H∧jA q l 0=jA q (l.drop i) i) ?_ ?_
 ·exact ⟨rfl,rfl,rfl,rfl,rfl,rfl⟩
 rintro i s H' ⟨q0,q1,q7,q8,rfl,hc⟩ hi
 by_cases h:i<l.length
 ·rw [List.drop_eq_getElem_cons h,jA] at hc
  have ef:=hf l[i] (List.getElem_mem h) H'.length
  cases hq:q l[i] with
  | true =>
   rw [hq,if_pos rfl] at hc
   rw [hq] at ef
   simp [q0,q1,q7,q8,h,hc,ef]
  | false =>
   rw [hq,if_neg (by decide)] at hc
   rw [hq] at ef
   simp [q0,q1,q7,q8,h,hc,ef,ay h (by omega)]
 ·have h':i=l.length:=by omega
  subst h'
  rw [List.drop_length,jA] at hc
  simp [q0,q1,q7,q8,hc]
theorem bH {X:ag} {b e g:Nat} {row:List AV} (hg:ax X b g e 0=some row) (L:ag):ax (X++L) b g e 0=some row:=by
 have hb:b<X.length:=by
  rcases Nat.lt_or_ge b X.length with h | h
  ·exact h
  ·simp [ax,List.getElem?_eq_none h] at hg
 simp only [ax] at hg ⊢;rw [List.getElem?_append_left hb];exact hg
theorem JB (S:bB C σ) {base b:Nat} {H:ag} {d:ar} (hg:ax H b 0 32 0=some d.cells) (x:ah) (K:AV→ag→Prop) :
 aD Tryz.prog C base (.fn 105 [.ptr b 0 32 0 0]) [.agg x.cells] H K=K (.bool (decide (x.id.d=d.d))) H:=by
 refine aD.eq (d5 (S.pureS _ (by decide)) (am Tryz.func105 rfl (S.prim _ (by decide)) (by simp) (by kernel_rfl) ?_)) K
 unfold Tryz.f105
 have e:=mj S.toaA
 simp [aG,bH hg,e]
theorem uE (S:bB C σ) (l:List ah) (k:SK) (d:ar) (hl:l.length≤2^20):cE Tryz.prog C 56 [] [aw k (l.map ah.cells),.agg d.cells] (.tup [.agg (d3 l d.d).cells,.bool (jn l d.d)]):=by
 refine aB (S.pureS _ (by decide)) fun H=>am Tryz.func56 rfl (S.prim _ (by decide)) (by simp) (by kernel_rfl) ?_
 unfold Tryz.f56
 have e:=fun (K:AV→ag→Prop)=>v8 S (base:=H.length) (H:=H++[.rows 32 0 [d.cells],.rows 5 0 [kM.cells]]) (k:=k) (l:=l) (f:=.fn 105 [.ptr H.length 0 32 0 0]) (q:=fun x=>decide (x.id.d=d.d)) (by omega) (fun x _ base K=>JB S (by simp) x K) K
 obtain ⟨i1,i2⟩:=jY (fun x:ah=>decide (x.id.d=d.d)) l 0
 unfold d3 jn
 cases hf:l.find? (fun x=>decide (x.id.d=d.d)) with
 | none =>
  have h0:=i2 hf
  rw [h0] at e
  simp [aG,e,ao,aE]
  exact bN (aq (v:=.agg _) (aC.closed _)) (by simp)
 | some x =>
  obtain ⟨j,h1,h2⟩:=i1 x hf
  rw [h1] at e
  have hj:j<l.length:=(List.getElem?_eq_some_iff.1 h2).1
  have hjx:l[j]=x:=by rw [List.getElem?_eq_getElem hj] at h2;exact Option.some.inj h2
  simp only [Nat.zero_add] at e
  simp [aG,e,ao,aE,hj,hjx,show ¬(j:Int)<0 by omega]
  exact bN (aq (v:=.agg _) (aC.closed _)) (by simp)
end Go.Proofs.Ev
namespace Go.Proofs.Ev
open Go.Proofs
variable {C:bG} {σ:aZ}
theorem qm (S:aA C) (d:ar):i8 Tryz.prog C 25 (.agg d.cells)=true:=by
 have h1:=gq d.d;rw [d.h] at h1
 have hd:d.cells=dig d.d:=rfl
 simp only [i8,Q4,S.kDig,hd]
 exact h1
theorem JI (S:aA C) (a b:ar):fN Tryz.prog C 25 (.agg a.cells) (.agg b.cells)=some (decide (a.d=b.d)):=by
 have h1:=gq a.d;rw [a.h] at h1
 have h2:=gq b.d;rw [b.h] at h2
 have ha:a.cells=dig a.d:=rfl
 have hb:b.cells=dig b.d:=rfl
 simp only [fN,pI,S.kDig,ha,hb,h1,h2,Bool.and_self,if_true,jy a.d b.d (by rw [a.h,b.h])]
def gL (l:List (ar×AV)):List (AV×AV):=l.map fun x=>(.agg x.1.cells,x.2)
def jR (l:List (ar×AV)) (d:List Nat):Option (Nat×AV) :=
 match l with
 | []=>none
 | x::l=>if x.1.d=d then some (0,x.2) else (jR l d).map fun p=>(p.1+1,p.2)
theorem ri (S:aA C) (d:ar):∀(l:List (ar×AV)) (i:Nat),eh Tryz.prog C 25 (.agg d.cells) (gL l) i=some ((jR l d.d).map fun p=>(p.1+i,p.2))
 | [],i=>rfl
 | x::l,i=>by
  have ih:=ri S d l (i+1)
  rw [gL,List.map_cons,eh,JI S,jR]
  by_cases h:x.1.d=d.d
  ·rw [if_pos h,show decide (d.d=x.1.d)=true by simp [h]];simp
  ·rw [if_neg h,show decide (d.d=x.1.d)=false by simp [Ne.symm h]]
   show eh Tryz.prog C 25 (.agg d.cells) (gL l) (i+1)=_
   rw [ih]
   cases jR l d.d with
   | none=>rfl
   | some p=>simp;omega
def gI (out:List ar):List (ar×AV):=out.map fun d=>(d,.bool true)
theorem uB:∀(out:List ar) (d:List Nat),(jR (gI out) d).isSome=bV out d∧∀p,jR (gI out) d=some p→p.2=.bool true
 | [],d=>by simp [gI,jR,bV]
 | x::l,d=>by
  have ih:=uB l d
  have hc:jR (gI (x::l)) d=if x.d=d then some (0,.bool true) else (jR (gI l) d).map fun p=>(p.1+1,p.2):=rfl
  rw [hc]
  by_cases h:x.d=d
  ·rw [if_pos h]
   exact ⟨by simp [bV,h],fun p hp=>by cases hp;rfl⟩
  ·rw [if_neg h]
   refine ⟨?_,fun p hp=>?_⟩
   ·rw [Option.isSome_map,ih.1];simp [bV,h]
   ·cases hq:jR (gI l) d with
    | none=>rw [hq] at hp;cases hp
    | some q=>rw [hq] at hp;cases hp;exact ih.2 q hq
theorem rn (S:aA C) {X:ag} {m:Nat} {out:List ar} (hm:X[m]?=some (.map (gL (gI out)))) (d:ar):cu Tryz.prog C X 149 (.map m) (.agg d.cells) false=some (.bool (bV out d.d)):=by
 have hf:=ri S d (gI out) 0
 obtain ⟨h1,h2⟩:=uB out d.d
 simp only [cu,Lt,qm S,iw,hm,hf,if_true]
 cases hp:jR (gI out) d.d with
 | none=>rw [hp] at h1;simp at h1;simp [←h1]
 | some p=>rw [hp] at h1;simp at h1;simp [h2 p hp,←h1]
theorem AJ (S:aA C) {base:Nat} {X:ag} {m:Nat} {out:List ar} (hb:base≤m) (hm:X[m]?=some (.map (gL (gI out)))) (d:ar) (hd:bV out d.d=false) :
 dB Tryz.prog C base X 149 (.map m) (.agg d.cells) (.bool true)=some (X.set m (.map (gL (gI (out++[d]))))):=by
 have hf:=ri S d (gI out) 0
 obtain ⟨h1,h2⟩:=uB out d.d
 simp only [dB,Lt,qm S,hm,hf,hb,and_self,if_true]
 cases hp:jR (gI out) d.d with
 | none=>simp [gL,gI]
 | some p=>rw [hp,hd] at h1;simp at h1
def dM (σ:aZ) (s:List ah):List (ar×AV):=s.map fun x=>(x.id,aw (if cW x.patch=[] then .exact else .loose) ((co σ x.patch).map ar.cells))
def b8 (s:List ah):Prop:=(∀x∈s,x.patch.Good)∧s.Pairwise (fun x y=>x.id.d≠y.id.d)∧s.length≤2^20
theorem rD {s:List ah} (hu:s.Pairwise (fun x y=>x.id.d≠y.id.d)) {x:ah} (hx:x∈s):∃j,jR (dM σ s) x.id.d=some (j,aw (if cW x.patch=[] then .exact else .loose) ((co σ x.patch).map ar.cells)):=by
 induction s with
 | nil=>cases hx
 | cons y l ih =>
  rw [List.pairwise_cons] at hu
  show ∃j,jR ((y.id,_)::dM σ l) x.id.d=_
  rw [jR]
  rcases List.mem_cons.1 hx with rfl | hx
  ·exact ⟨0,by rw [if_pos rfl]⟩
  ·obtain ⟨j,hj⟩:=ih hu.2 hx
   exact ⟨j+1,by rw [if_neg (hu.1 x hx),hj];rfl⟩
theorem uC {s:List ah} {d:List Nat} (h:∀x∈s,x.id.d≠d):jR (dM σ s) d=none:=by
 induction s with
 | nil=>rfl
 | cons y l ih =>
  show jR ((y.id,_)::dM σ l) d=_
  rw [jR,if_neg (h y (by simp)),ih fun x hx=>h x (by simp [hx])];rfl
end Go.Proofs.Ev
namespace Go.Proofs.Ev
open Go.Proofs
variable {C:bG} {σ:aZ}
theorem FN (S:aA C) {base:Nat} {X:ag} {m:Nat} {l:List (ar×AV)} (hb:base≤m) (hm:X[m]?=some (.map (gL l))) (d:ar) (v:AV) (hd:jR l d.d=none) :
 dB Tryz.prog C base X 94 (.map m) (.agg d.cells) v=some (X.set m (.map (gL (l++[(d,v)])))):=by
 have hf:=ri S d l 0
 rw [hd] at hf
 simp only [dB,MP,qm S,hm,hf,hb,and_self,if_true]
 simp [gL]
theorem um (S:aA C) {X:ag} {m:Nat} {l:List (ar×AV)} (hm:X[m]?=some (.map (gL l))) (d:ar) {j:Nat} {v:AV} (hd:jR l d.d=some (j,v)):cu Tryz.prog C X 94 (.map m) (.agg d.cells) false=some v:=by
 have hf:=ri S d l 0
 rw [hd] at hf
 simp only [cu,MP,qm S,iw,hm,hf,if_true]
 simp
set_option maxHeartbeats 2000000 in
theorem zq (S:bB C σ) (l:List ah) (k:SK) (hl:b8 l) {base:Nat} {H:ag} (hb:base≤H.length) :
 ∃J,∀K:AV→ag→Prop,aD Tryz.prog C base (.fn 29 []) [aw k (l.map ah.cells)] H K=K (.map H.length) (H++.map (gL (dM σ l))::J):=by
 obtain ⟨hl1,hl2,hl3⟩:=hl
 suffices h:aD Tryz.prog C base (.fn 29 []) [aw k (l.map ah.cells)] H (fun v' H'=>∃J,v'=.map H.length∧H'=H++.map (gL (dM σ l))::J) by
  obtain ⟨n,v1,H1,h1,J,rfl,rfl⟩:=h
  exact ⟨J,fun K=>aD.eq ⟨n,_,_,h1,rfl,rfl⟩ K⟩
 refine bn (S.plainS _ (by decide)).1 (S.plainS _ (by decide)).2 (am Tryz.func29 rfl (S.prim _ (by decide)) (by simp) (by kernel_rfl) ?_)
 unfold Tryz.f29
 simp [aG]
 refine az l.length (fun i s H'=>s 3=.map H.length∧s 7=aw k (l.map ah.cells)∧s 8=.int .i64 l.length∧s 9=.int .i64 i∧∃J,H'=H++.map (gL (dM σ (l.take i)))::J) ?_ ?_
 ·exact ⟨rfl,rfl,rfl,rfl,[],rfl⟩
 rintro i s H' ⟨q3,q7,q8,q9,J,rfl⟩ hi
 by_cases h:i<l.length
 ·have hm:=List.getElem_mem h
  have en:=(rF S.toj9 l[i].patch (hl1 _ hm)).eq
  have hp:jR (dM σ (l.take i)) l[i].id.d=none:=uC fun x hx=>by
   obtain ⟨j,hj,rfl⟩:=List.getElem_of_mem hx
   have hjl:j<i:=by simp at hj;omega
   rw [List.getElem_take]
   exact List.pairwise_iff_getElem.1 hl2 j i (by omega) h hjl
  have hg:dM σ (l.take (i+1))=dM σ (l.take i)++[(l[i].id,aw (if cW l[i].patch=[] then .exact else .loose) ((co σ l[i].patch).map ar.cells))]:=by
   unfold dM;rw [List.take_add_one,List.getElem?_eq_getElem h,List.map_append];rfl
  have eu:=FN S.toaA (base:=base) (X:=H++.map (gL (dM σ (l.take i)))::(J++[.rows 37 0 [l[i].cells]])) (m:=H.length) hb (by simp) l[i].id (aw (if cW l[i].patch=[] then .exact else .loose) ((co σ l[i].patch).map ar.cells)) hp
  rw [←hg] at eu
  obtain ⟨v,hv⟩:∃v,v=aw (if cW l[i].patch=[] then .exact else .loose) ((co σ l[i].patch).map ar.cells):=⟨_,rfl⟩
  rw [←hv] at en eu
  have hd0:aP.length=32:=by decide
  have hdr:List.drop 37 (dig aP++kM.cells)=[]:=by decide
  have hb2:base≤H.length+(J.length+1):=by omega
  simp [q3,q7,q8,q9,h,ao,aE,en,eu,hd0,hdr,hb2]
  rw [aN (h:=by kernel_rfl)]
  simp [q3,q7,q8,q9,ay h (by omega)]
  exact h
 ·have h':i=l.length:=by omega
  subst h'
  rw [List.take_length]
  simp [q3,q7,q8,q9]
def ll (start sz:Nat) (X:ag) (v:AV) (rows:List (List AV)):Prop:=start≤X.length∧aT start sz (X.drop start) v rows
theorem ll.append {P:Program} {base:Nat} {ts:Array TypeId} {e:TypeId} {xd:TypeDesc} {sz by_ start:Nat} (h0:(ts[0]?).bind P.underlying=some (.slice e)) (h1:(ts[1]?).bind P.underlying=some xd) (hs:bF P e=some sz) (hb:bytesOf P e=some by_)
 (hz:(aQ P e).map (fun z=>z.cells.length)=some sz) (hp:0<sz) {X:ag} (hY:base≤start) {v x:AV} {rows ys:List (List AV)} (hg:ll start sz X v rows) (hr:∀r∈rows,r.length=sz)
 (hx:cQ X xd x=some ys) (hy:∀r∈ys,r.length=sz) (hbound:(rows.length+ys.length)*(by_+1)≤2^45) :
 ∃v' X',bA P base X ts v.denil x=some (v',X')∧ll start sz X' v' (rows++ys)∧fl sz X X'∧(ys≠[]→∃b g l,v'=.sl b g sz 0 l):=by
 obtain ⟨hst,hg⟩:=hg
 have hl:(X.take start).length=start:=by simp;omega
 have hX:X.take start++X.drop start=X:=List.take_append_drop start X
 obtain ⟨v',J',a1,a2,a3⟩:=aT.appendP (P:=P) (base:=base) (Z:=X.take start) (J:=X.drop start) h0 h1 hs hb hz hp hl.symm (by omega) hg hr (by rw [hX];exact hx) hy hbound
 rw [hX] at a1
 refine ⟨v',X.take start++J',a1,⟨by simp;omega,?_⟩,?_,fun hne=>lY h0 h1 hs hb hx hne a1⟩
 ·rw [List.drop_append_of_le_length (by omega),List.drop_of_length_le (by omega)];exact a2
 ·have:=a3.head (Z:=X.take start)
  rw [hX] at this
  exact this
theorem ll.app {start sz:Nat} {X:ag} {v:AV} {rows:List (List AV)} (hg:ll start sz X v rows) (L:ag):ll start sz (X++L) v rows:=by
 refine ⟨by have:=hg.1;simp;omega,?_⟩
 rw [List.drop_append_of_le_length hg.1];exact hg.2.app L
theorem ll.setL {start sz j:Nat} {X:ag} {v:AV} {rows:List (List AV)} {blk x:bQ} (hg:ll start sz X v rows) (hj:X[j]?=some blk) (hb:∀g rs,blk≠.rows sz g rs):ll start sz (X.set j x) v rows:=by
 refine ⟨by simpa using hg.1,?_⟩
 rcases Nat.lt_or_ge j start with h | h
 ·rw [List.drop_set_of_lt h];exact hg.2
 ·rw [List.drop_set,if_neg (by omega)]
  refine hg.2.setL (blk:=blk) ?_ hb
  rw [List.getElem?_drop];rw [show start+(j-start)=j by omega];exact hj
theorem Cb (S:bB C σ) {base b m:Nat} {X:ag} {out:List ar} (hb:ax X b 0 1 0=some [.map m]) (hm:X[m]?=some (.map (gL (gI out)))) (d:ar) (K:AV→ag→Prop) :
 aD Tryz.prog C base (.fn 104 [.ptr b 0 1 0 0]) [.agg d.cells] X K=K (.bool (!bV out d.d)) X:=by
 have hmX:m<X.length:=(List.getElem?_eq_some_iff.1 hm).1
 have hlk:=fun L=>rn S.toaA (X:=X++L) (m:=m) (out:=out) (by rw [List.getElem?_append_left hmX];exact hm) d
 refine aD.eq (d5 (S.pureS _ (by decide)) (am Tryz.func104 rfl (S.prim _ (by decide)) (by simp) (by kernel_rfl) ?_)) K
 unfold Tryz.f104
 simp [aG,bH hb,hlk]
theorem xh (S:bB C σ) {base:Nat} {H:ag} {k:SK} {l:List ar} {f:AV} {q:ar→Bool} (hl:l.length≤2^40) (hf:∀x∈l,∀(base:Nat) (K:AV→ag→Prop),aD Tryz.prog C base f [.agg x.cells] H K=K (.bool (q x)) H) (K:AV→ag→Prop) :
 aD Tryz.prog C base (.fn 82 []) [aw k (l.map ar.cells),f] H K=K (.bool (l.any q)) H:=by
 refine aD.eq (d5 (S.pureS _ (by decide)) (am Tryz.func82 rfl (S.prim _ (by decide)) (by simp) (by kernel_rfl) ?_)) K
 unfold Tryz.f82
 have e:=fun K=>Ez S (base:=H.length) (H:=H) (k:=k) hl hf K
 have hi:=Dl q l 0
 have ha:l.any q=(l.find? q).isSome:=by rw [Bool.eq_iff_iff,List.any_eq_true,List.find?_isSome]
 simp [aG,e]
 rw [ha,Bool.eq_iff_iff,decide_eq_true_eq,hi]
end Go.Proofs.Ev
namespace Go.Proofs.Ev
open Go.Proofs
variable {C:bG} {σ:aZ}
theorem iz {α β:Type} {f:α→List β} {b:Nat}:∀{l:List α},(∀x∈l,(f x).length≤b)→(l.map f).flatten.length≤b*l.length
 | [],_=>by simp
 | x::l,h=>by
  have h1:=h x (by simp)
  have h2:=iz (l:=l) fun y hy=>h y (by simp [hy])
  simp only [List.map_cons,List.flatten_cons,List.length_append,List.length_cons,Nat.mul_add]
  omega
theorem uq (hd:∀l,(σ.d l).Perm l) {p:aC} (hp:p.Good):(co σ p).length≤2^20:=by
 have h1:=(qY (σ.d (cW p))).1
 have h2:=(hd (cW p)).length_eq
 have h3:=iz (f:=fun c=>ew (dG c)) (b:=404) (l:=p.changes) fun c hc=>Nat.le_trans (pu _) (uD c (hp.good hc).on)
 obtain ⟨_,_,h4,_,h5⟩:=hp.head
 have h6:(cW p).length=p.deps.length+((p.changes.map fun c=>ew (dG c)).flatten).length:=by unfold cW;simp
 unfold co
 omega
def sO (σ:aZ) (out:List ar) (x:ah):Bool:=!bV out x.id.d&&gD out (co σ x.patch)
theorem E5 (S:bB C σ) {base b3 b4 gm m:Nat} {X:ag} {s:List ah} {out:List ar} (hs:b8 s) (h3:ax X b3 0 1 0=some [.map gm]) (hgm:X[gm]?=some (.map (gL (dM σ s)))) (h4:ax X b4 0 1 0=some [.map m]) (hm:X[m]?=some (.map (gL (gI out))))
 {x:ah} (hx:x∈s) (K:AV→ag→Prop) :
 aD Tryz.prog C base (.fn 103 [.ptr b4 0 1 0 0,.ptr b3 0 1 0 0]) [.agg x.cells] X K=K (.bool (sO σ out x)) X:=by
 have hmX:m<X.length:=(List.getElem?_eq_some_iff.1 hm).1
 have hgX:gm<X.length:=(List.getElem?_eq_some_iff.1 hgm).1
 have hlk:=fun L=>rn S.toaA (X:=X++L) (m:=m) (out:=out) (by rw [List.getElem?_append_left hmX];exact hm) x.id
 obtain ⟨j,hj⟩:=rD (σ:=σ) hs.2.1 hx
 have hlg:=fun L=>um S.toaA (X:=X++L) (m:=gm) (l:=dM σ s) (by rw [List.getElem?_append_left hgX];exact hgm) x.id hj
 have hnl:=uq S.permD (hs.1 x hx)
 refine aD.eq (d5 (S.pureS _ (by decide)) (am Tryz.func103 rfl (S.prim _ (by decide)) (by simp) (by kernel_rfl) ?_)) K
 unfold Tryz.f103
 have ec:=fun K=>xh S (base:=X.length) (H:=X++[.rows 37 0 [x.cells]]) (k:=if cW x.patch=[] then .exact else .loose) (l:=co σ x.patch) (f:=.fn 104 [.ptr b4 0 1 0 0]) (q:=fun d=>!bV out d.d) (by omega)
  (fun d _ base K=>Cb S (bH h4 _) (by rw [List.getElem?_append_left hmX];exact hm) d K) K
 have hall:(co σ x.patch).any (fun d=>!bV out d.d) = !gD out (co σ x.patch):=by
  rw [gD,Bool.eq_iff_iff];simp
 rw [hall] at ec
 obtain ⟨kk,hkk⟩:∃kk,kk=(if cW x.patch=[] then SK.exact else SK.loose):=⟨_,rfl⟩
 rw [←hkk] at ec hlg
 unfold sO
 cases hd:bV out x.id.d with
 | true=>simp [aG,an,bH h3,bH h4,hlk,hd]
 | false=>simp [aG,an,bH h3,bH h4,hlk,hlg,hd,ec]
def cr (σ:aZ) (s:List ah):Nat→List ar→List ar
 | 0,out=>out
 | n+1,out=>match s.find? (sO σ out) with | some x=>cr σ s n (out++[x.id]) | none=>out
theorem ll.freeze {start sz d:Nat} {X:ag} {v:AV} {rows:List (List AV)} (hg:ll start sz X v rows) (hc:AV.closedss rows=true) (hv:(rows=[]∧v=.nils)∨(rows≠[]∧∃b g l,v=.sl b g sz 0 l)):aJ X start (d+1) v=some (aw (dS rows) rows):=by
 rcases hv with ⟨h0,h1⟩ | ⟨h0,b,g,l,h1⟩
 ·rw [h0,h1];simp [dS,aw]
 ·have hk:dS rows=.loose:=by unfold dS;cases rows with | nil=>exact absurd rfl h0 | cons _ _=>rfl
  rcases hg.2 with ⟨_,h2⟩ | h2 | ⟨b',g',h2,h3⟩
  ·rw [h1] at h2;cases h2
  ·rw [h1] at h2;cases h2
  ·rw [List.getElem?_drop] at h3
   rw [h2,fF h3 (by omega) hc,hk]
   cases rows<;>rfl
structure yt (σ:aZ) (s:List ah) (st b3 b4 gm m:Nat) (out:List ar) (v:AV) (X:ag):Prop where
 h3:ax X b3 0 1 0=some [.map gm]
 hg:X[gm]?=some (.map (gL (dM σ s)))
 h4:ax X b4 0 1 0=some [.map m]
 hm:X[m]?=some (.map (gL (gI out)))
 ne:gm≠m
 low:st≤m
 grow:ll st 32 X v (out.map ar.cells)
 v:(out=[]∧v=.nils)∨(out≠[]∧∃b g l,v=.sl b g 32 0 l)
theorem vI {X X':ag} {b sz:Nat} {r:List AV} (h:ax X b 0 1 0=some r) (hs:fl sz X X') (hne:sz≠1):ax X' b 0 1 0=some r:=by
 unfold ax at h ⊢
 cases hb:X[b]? with
 | none=>rw [hb] at h;cases h
 | some blk =>
  rw [hb] at h
  cases blk with
  | rows e g rs =>
   simp only at h
   split at h
   ·rename_i hc
    obtain ⟨rfl,rfl⟩:=hc
    rw [hs b _ hb (by intro g' rs' h';cases h';exact hne rfl)]
    simpa using h
   ·cases h
  | _=>cases h
theorem pY {X:ag} {b m:Nat} {r:List AV} {es:List (AV×AV)} {x:bQ} (h:ax X b 0 1 0=some r) (hm:X[m]?=some (.map es)):ax (X.set m x) b 0 1 0=some r:=by
 unfold ax at h ⊢
 rw [List.getElem?_set_ne]
 ·exact h
 ·rintro rfl
  rw [hm] at h;cases h
set_option maxRecDepth 100000 in
set_option maxHeartbeats 4000000 in
theorem ww (S:bB C σ) (s0:List ah) (k:SK) (hs:b8 s0):cE Tryz.prog C 55 [] [aw k (s0.map ah.cells)] (aw (dS (cr σ s0 s0.length [])) ((cr σ s0 s0.length []).map ar.cells)):=by
 refine aB (S.pureS _ (by decide)) fun H=>am Tryz.func55 rfl (S.prim _ (by decide)) (by simp) (by kernel_rfl) ?_
 unfold Tryz.f55
 obtain ⟨J,eg⟩:=zq S s0 k hs (base:=H.length) (H:=H) (Nat.le_refl _)
 have hlen:=hs.2.2
 refine cut (fun s H'=>s 0=aw k (s0.map ah.cells)∧H'=H) ?_ ?_
 ·simp [aG]
 rintro s X ⟨q0,rfl⟩
 refine cut (fun s H'=>s 0=aw k (s0.map ah.cells)∧s 3=.ptr (X.length+(J.length+1)) 0 1 0 0∧H'=X++.map (gL (dM σ s0))::(J++[.rows 1 0 [[.map X.length]]])) ?_ ?_
 ·simp [q0,eg,ao]
  exact ⟨rfl,by decide,rfl,rfl⟩
 rintro s H' ⟨q0,q3,rfl⟩
 refine cut (fun s H'=>s 0=aw k (s0.map ah.cells)∧s 3=.ptr (X.length+(J.length+1)) 0 1 0 0∧s 4=.ptr (X.length+(J.length+3)) 0 1 0 0∧H'=X++.map (gL (dM σ s0))::(J++[.rows 1 0 [[.map X.length]],.map [],.rows 1 0 [[.map (X.length+(J.length+2))]]])) ?_ ?_
 ·simp [q0,q3,ao]
  exact ⟨rfl,by decide,rfl,rfl⟩
 rintro s H' ⟨q0,q3,q4,rfl⟩
 obtain ⟨b3,hb3⟩:∃b3,b3=X.length+(J.length+1):=⟨_,rfl⟩
 obtain ⟨b4,hb4⟩:∃b4,b4=X.length+(J.length+3):=⟨_,rfl⟩
 obtain ⟨m,hm⟩:∃m,m=X.length+(J.length+2):=⟨_,rfl⟩
 have hst0:yt σ s0 X.length b3 b4 X.length m [] .nils (X++.map (gL (dM σ s0))::(J++[.rows 1 0 [[.map X.length]],.map [],.rows 1 0 [[.map (X.length+(J.length+2))]]])):=by
  refine ⟨?_,by simp,?_,?_,by omega,by omega,⟨by simp,.inl ⟨rfl,rfl⟩⟩,.inl ⟨rfl,rfl⟩⟩
  ·rw [hb3];simp [ax]
  ·rw [hb4,hm];simp [ax]
  ·rw [hm];simp [gL,gI]
 rw [←hb3] at q3
 rw [←hb4] at q4
 obtain ⟨st,hst⟩:∃st,st=X.length:=⟨_,rfl⟩
 rw [←hst] at hst0
 obtain ⟨X1,hX1⟩:∃X1,X1=(X++.map (gL (dM σ s0))::(J++[.rows 1 0 [[.map st]],.map [],.rows 1 0 [[.map (st+(J.length+2))]]])):=⟨_,rfl⟩
 rw [←hst]
 rw [←hX1] at hst0 ⊢
 clear hX1 hm hb3 hb4 eg
 refine cut (fun s X=>s 0=aw k (s0.map ah.cells)∧s 3=.ptr b3 0 1 0 0∧s 4=.ptr b4 0 1 0 0∧yt σ s0 st b3 b4 st m [] (s 5) X) ?_ ?_
 ·simp [q0,q3,q4,hst0]
 clear hst0 q0 q3 q4
 rintro s X ⟨q0,q3,q4,hO⟩
 refine cut (fun s X=>∃b3 b4 gm m,yt σ s0 st b3 b4 gm m (cr σ s0 s0.length []) (s 5) X) ?_ ?_
 rotate_left
 ·rintro s X ⟨b3,b4,gm,m,hO⟩
  simp
  have hf:=hO.grow.freeze (d:=2) (aM ar.closed _) (by simpa using hO.v)
  have hk:dS ((cr σ s0 s0.length []).map ar.cells)=dS (cr σ s0 s0.length []):=by unfold dS;cases cr σ s0 s0.length []<;>rfl
  rw [hk] at hf
  exact hf
 simp [q0,q3,q4]
 refine az s0.length (fun i s X=>s 0=aw k (s0.map ah.cells)∧s 3=.ptr b3 0 1 0 0∧s 4=.ptr b4 0 1 0 0∧s 11=.int .i64 s0.length∧s 12=.int .i64 i∧∃out,cr σ s0 s0.length []=cr σ s0 (s0.length-i) out∧out.length=i∧yt σ s0 st b3 b4 st m out (s 5) X) ?_ ?_
 ·exact ⟨q0,q3,q4,rfl,rfl,[],rfl,rfl,hO⟩
 clear hO q0 q3 q4
 rintro i s X ⟨q0,q3,q4,q11,q12,out,ho,hol,hO⟩ hi
 by_cases h:i<s0.length
 rotate_left
 ·have h':i=s0.length:=by omega
  rw [h',Nat.sub_self,cr] at ho
  subst h'
  simp [q0,q3,q4,q11,q12]
  exact ⟨b3,b4,st,m,ho▸hO⟩
 rw [show s0.length-i=(s0.length-(i+1))+1 by omega,cr] at ho
 have e:=fun (K:AV→ag→Prop)=>v8 S (base:=st) (H:=X) (k:=k) (l:=s0) (f:=.fn 103 [.ptr b4 0 1 0 0,.ptr b3 0 1 0 0]) (q:=sO σ out) (by omega) (fun x hx base K=>E5 S hs hO.h3 hO.hg hO.h4 hO.hm hx K) K
 obtain ⟨i1,i2⟩:=jY (sO σ out) s0 0
 cases hf:s0.find? (sO σ out) with
 | none =>
  rw [i2 hf] at e
  rw [hf] at ho
  simp [q0,q3,q4,q11,q12,h,e]
  exact ⟨b3,b4,st,m,ho▸hO⟩
 | some x =>
  obtain ⟨j,h1,h2⟩:=i1 x hf
  rw [Nat.zero_add] at h1
  rw [h1] at e
  rw [hf] at ho
  have hj:j<s0.length:=(List.getElem?_eq_some_iff.1 h2).1
  have hjx:s0[j]=x:=by rw [List.getElem?_eq_getElem hj] at h2;exact Option.some.inj h2
  have hok:=List.find?_some hf
  unfold sO at hok
  simp only [Bool.and_eq_true,Bool.not_eq_true'] at hok
  have eu:=AJ S.toaA (base:=st) hO.low hO.hm x.id hok.1
  have hmX:m<X.length:=(List.getElem?_eq_some_iff.1 hO.hm).1
  have hgr:=hO.grow.setL (x:=.map (gL (gI (out++[x.id])))) hO.hm (by intro g rs h;cases h)
  obtain ⟨v',X',ha,hg',hsty,hsl⟩:=hgr.append (P:=Tryz.prog) (base:=st) (ts:=#[30,30]) (e:=25) (xd:=.slice 25) (x:=.lst [x.id.cells] true) (ys:=[x.id.cells])
   (by simp) (by simp) nN A6 (by simp [show aP.length=32 by decide]) (by decide) (Nat.le_refl _) (fun r hr=>by obtain ⟨y,_,rfl⟩:=List.mem_map.1 hr;simp) rfl (by simp) (by simp;omega)
  have hO':yt σ s0 st b3 b4 st m (out++[x.id]) v' X':=by
   refine ⟨vI (pY hO.h3 hO.hm) hsty (by decide),?_,vI (pY hO.h4 hO.hm) hsty (by decide),?_,hO.ne,hO.low,by simpa using hg',.inr ⟨by simp,hsl (by simp)⟩⟩
   ·exact hsty _ _ (by rw [List.getElem?_set_ne (Ne.symm hO.ne)];exact hO.hg) (by intro g rs h;cases h)
   ·exact hsty _ _ (by rw [List.getElem?_set_self hmX]) (by intro g rs h;cases h)
  have hd0:aP.length=32:=by decide
  have hnj:¬(j:Int)<0:=by omega
  obtain ⟨h4',h3'⟩:=And.intro hO.h4 hO.h3
  simp [q0,q3,q4,q11,q12,h,e,hnj,hj,hjx,h4',eu]
  rw [aN (h:=by kernel_rfl)]
  simp [q0,q3,q4,q11,q12,hj,hjx,aj,au,hd0,ha,ay h (by omega)]
  exact ⟨h,out++[x.id],ho,by simp [hol],hO'⟩
theorem uJ (S:bB C σ) (l:List ar) (k:SK) (d:ar) (hl:l.length≤2^40):cE Tryz.prog C 31 [] [aw k (l.map ar.cells),.agg d.cells] (.bool (bV l d.d)):=by
 have key:cE Tryz.prog C 70 [] [aw k (l.map ar.cells),.agg d.cells] (.int .i64 (jA (fun x=>decide (x.d=d.d)) l 0)):=by
  refine aB (S.pureS _ (by decide)) fun H=>am Tryz.func70 rfl (S.prim _ (by decide)) (by simp) (by kernel_rfl) ?_
  unfold Tryz.f70
  have e:=mj S.toaA
  simp [aG]
  refine az l.length (fun i s H'=>s 0=aw k (l.map ar.cells)∧s 3=.ptr H.length 0 32 0 0∧s 7=.int .i64 l.length∧s 8=.int .i64 i∧H'=H++[.rows 32 0 [d.cells]]∧jA (fun x=>decide (x.d=d.d)) l 0=jA (fun x=>decide (x.d=d.d)) (l.drop i) i) ?_ ?_
  ·exact ⟨rfl,rfl,rfl,rfl,rfl,rfl⟩
  rintro i s H' ⟨q0,q3,q7,q8,rfl,hc⟩ hi
  by_cases h:i<l.length
  ·rw [List.drop_eq_getElem_cons h,jA] at hc
   by_cases hq:l[i].d=d.d
   ·rw [if_pos (by simpa using hq)] at hc
    simp [q0,q3,q7,q8,h,hc,e,hq]
   ·rw [if_neg (by simpa using hq)] at hc
    have hq':¬d.d=l[i].d:=fun h'=>hq h'.symm
    simp [q0,q3,q7,q8,h,hc,e,hq',ay h (by omega)]
  ·have h':i=l.length:=by omega
   subst h'
   rw [List.drop_length,jA] at hc
   simp [q0,q3,q7,q8,hc]
 refine aB (S.pureS _ (by decide)) fun H=>am Tryz.func31 rfl (S.prim _ (by decide)) (by simp) (by kernel_rfl) ?_
 unfold Tryz.f31
 have hi:=Dl (fun x:ar=>decide (x.d=d.d)) l 0
 have ha:bV l d.d=(l.find? fun x=>decide (x.d=d.d)).isSome:=by rw [bV,Bool.eq_iff_iff,List.any_eq_true,List.find?_isSome]
 have ek:=key.eq
 simp [aG,ek]
 rw [ha,Bool.eq_iff_iff,decide_eq_true_eq,hi]
end Go.Proofs.Ev
namespace Go.Proofs.Ev
open Go.Proofs
variable {C:bG} {σ:aZ}
def cG (l:List ah) (ids:List ar):List ah:=l.filter fun x=>bV ids x.id.d
def P1 (H:ag) (l:List ah) (v:AV) (X:ag):Prop:=ll H.length 37 X v (l.map ah.cells)∧((l=[]∧v=.nils)∨(l≠[]∧∃b g n,v=.sl b g 37 0 n))
theorem HL (S:bB C σ) (l:List ah) (ids:List ar) (k k2:SK) (hl:l.length≤2^20) (hi:ids.length≤2^20):cE Tryz.prog C 11 [] [aw k (l.map ah.cells),aw k2 (ids.map ar.cells)] (aw (dS (cG l ids)) ((cG l ids).map ah.cells)):=by
 refine aB (S.pureS _ (by decide)) fun H=>am Tryz.func11 rfl (S.prim _ (by decide)) (by simp) (by kernel_rfl) ?_
 unfold Tryz.f11
 simp [aG]
 refine az l.length (fun i s X=>s 1=aw k2 (ids.map ar.cells)∧s 8=aw k (l.map ah.cells)∧s 9=.int .i64 l.length∧s 10=.int .i64 i∧P1 H (cG (l.take i) ids) (s 5) X) ?_ ?_
 ·exact ⟨rfl,rfl,rfl,rfl,⟨Nat.le_refl _,.inl ⟨rfl,rfl⟩⟩,.inl ⟨rfl,rfl⟩⟩
 rintro i s X ⟨q1,q8,q9,q10,hg,hv⟩ hi'
 by_cases h:i<l.length
 ·have ec:=(uJ S ids k2 l[i].id (by omega)).eq
  have hs:cG (l.take (i+1)) ids=cG (l.take i) ids++(if bV ids l[i].id.d then [l[i]] else []):=by
   unfold cG;rw [List.take_add_one,List.getElem?_eq_getElem h,List.filter_append]
   cases hh:bV ids l[i].id.d<;>simp [hh]
  have hd0:aP.length=32:=by decide
  have hdr:List.drop 37 (dig aP++kM.cells)=[]:=by decide
  have hlow:=hg.1
  have hkl:(cG (l.take i) ids).length≤2^20:=by
   have:=List.length_filter_le (fun x:ah=>bV ids x.id.d) (l.take i)
   have h2:(l.take i).length≤l.length:=by simp;omega
   unfold cG;omega
  cases hh:bV ids l[i].id.d with
  | false =>
   rw [hh,if_neg (by decide),List.append_nil] at hs
   simp [q1,q8,q9,q10,h,ao,aE,ec,hh,hd0,hdr,hlow,ay h (by omega)]
   rw [hs]
   exact ⟨hg.app _,hv⟩
  | true =>
   rw [hh,if_pos rfl] at hs
   obtain ⟨v',X',ha,hg',_,hsl⟩:=(hg.app [.rows 37 0 [l[i].cells]]).append (P:=Tryz.prog) (base:=H.length) (ts:=#[23,23]) (e:=98) (xd:=.slice 98) (x:=.lst [l[i].cells] true) (ys:=[l[i].cells])
    (by simp) (by simp) ML NY (by simp [hd0]) (by decide) (Nat.le_refl _) (fun r hr=>by obtain ⟨y,_,rfl⟩:=List.mem_map.1 hr;simp) rfl (by simp) (by simp;omega)
   simp [q1,q8,q9,q10,h,ao,aE,ec,hh,hd0,hdr,hlow,aj,au,ha,ay h (by omega)]
   rw [hs]
   exact ⟨by simpa using hg',.inr ⟨by simp,hsl (by simp)⟩⟩
 ·have h':i=l.length:=by omega
  subst h'
  rw [List.take_length] at hg hv
  have hf:=hg.freeze (d:=2) (aM ah.closed _) (by simpa using hv)
  have hk:dS ((cG l ids).map ah.cells)=dS (cG l ids):=by unfold dS;cases cG l ids<;>rfl
  rw [hk] at hf
  simp [q1,q8,q9,q10]
  exact hf
def gJ (σ:aZ) (s:List ah) (id:aI):Option aH:=if jn s id.d then (bj σ (d3 s id.d)).find? (fun x=>aF x.id id) else none
theorem GQ (S:bB C σ) {base b:Nat} {H:ag} {id:aI} (hg:ax H b 0 33 0=some id.cells) (x:aH) (K:AV→ag→Prop) :
 aD Tryz.prog C base (.fn 101 [.ptr b 0 33 0 0]) [.agg x.cells] H K=K (.bool (aF x.id id)) H:=by
 refine aD.eq (d5 (S.pureS _ (by decide)) (am Tryz.func101 rfl (S.prim _ (by decide)) (by simp) (by kernel_rfl) ?_)) K
 unfold Tryz.f101
 have e:=jk S.toaA
 simp [aG,bH hg,e]
theorem d4 {s:List ah} (hs:b8 s) {d:List Nat} (h:jn s d=true):(d3 s d).Good∧∃x∈s,x.id.d=d∧x.patch=d3 s d:=by
 unfold jn at h
 unfold d3
 cases hf:s.find? (fun x=>decide (x.id.d=d)) with
 | none=>rw [hf] at h;cases h
 | some x =>
  have hm:=List.mem_of_find?_eq_some hf
  exact ⟨hs.1 x hm,x,hm,by simpa using List.find?_some hf,rfl⟩
theorem gg {p:aC} (hp:p.Good):(bj σ p).length≤90000:=by rw [bj,List.length_map];exact hp.n
set_option maxHeartbeats 2000000 in
theorem Ai (S:bB C σ) (l:List ah) (k:SK) (id:aI) (hl:b8 l):cE Tryz.prog C 53 [] [aw k (l.map ah.cells),.agg id.cells] (.tup [.agg ((gJ σ l id).getD b9).cells,.bool (gJ σ l id).isSome]):=by
 refine aB (S.pureS _ (by decide)) fun H=>am Tryz.func53 rfl (S.prim _ (by decide)) (by simp) (by kernel_rfl) ?_
 unfold Tryz.f53
 have eg:=(uE S l k id.dv hl.2.2).eq
 have hdv:id.dv.cells=dig id.d:=rfl
 have hdd:id.dv.d=id.d:=rfl
 rw [hdv,hdd] at eg
 have hfin:∀(X:ag) (x:aH) (b:Bool),aJ X H.length 3 (.tup [.agg x.cells,.bool b])=some (.tup [.agg x.cells,.bool b]):=fun X x b=>bN (aq (v:=.agg _) (aH.closed _)) (by simp)
 cases hh:jn l id.d with
 | false =>
  have hf:gJ σ l id=none:=by unfold gJ;rw [hh];rfl
  rw [hh] at eg
  simp [aG,eg,ao,aE,hf]
  exact hfin _ _ _
 | true =>
  obtain ⟨hpg,_⟩:=d4 hl hh
  have ea:=(j4 S.tod9 (d3 l id.d) hpg).eq
  have hal:=gg (σ:=σ) hpg
  rw [hh] at eg
  obtain ⟨p,hp⟩:∃p,p=d3 l id.d:=⟨_,rfl⟩
  rw [←hp] at eg ea hal
  have hf:gJ σ l id=(bj σ p).find? (fun x=>aF x.id id):=by unfold gJ;rw [hh,if_pos rfl,hp]
  obtain ⟨L,hL⟩:∃L,L=bj σ p:=⟨_,rfl⟩
  rw [←hL] at ea hf hal
  obtain ⟨i1,i2⟩:=jY (fun x:aH=>aF x.id id) L 0
  have hsl:AV.lst (L.map aH.cells) false=aw .loose (L.map aH.cells):=by cases L<;>rfl
  have ei:=fun (K:AV→ag→Prop)=>Ey S (base:=H.length) (H:=H++[.rows 33 0 [id.cells],.rows 172 0 [b9.cells],.rows 5 0 [p.cells]]) (k:=.loose) (l:=L) (f:=.fn 101 [.ptr H.length 0 33 0 0]) (q:=fun x=>aF x.id id) (by omega) (fun x _ base K=>GQ S (by simp) x K) K
  rw [←hsl] at ei
  rw [hf]
  cases hfd:L.find? (fun x=>aF x.id id) with
  | none =>
   rw [i2 hfd] at ei
   simp [aG,eg,ea,ei,ao,aE]
   exact hfin _ _ _
  | some x =>
   obtain ⟨j,h1,h2⟩:=i1 x hfd
   rw [Nat.zero_add] at h1
   rw [h1] at ei
   have hj:j<L.length:=(List.getElem?_eq_some_iff.1 h2).1
   have hjx:L[j]=x:=by rw [List.getElem?_eq_getElem hj] at h2;exact Option.some.inj h2
   simp [aG,eg,ea,ei,ao,aE,hj,hjx,show ¬(j:Int)<0 by omega]
   exact hfin _ _ _
structure cT (C:bG) (σ:aZ):Prop extends bB C σ where
 pureT:∀f,f∈[21,99,17]→C.pure f=true
 plainT:∀f,f∈[168,107,252,253,51,52,98]→C.pure f=false∧C.frz f=false
def kX (σ:aZ) (s:List ah) (id:aI) (k:Int):Int:=match gJ σ s id with | none=>7 | some x=>if x.kind=k then 0 else 8
theorem wx (S:cT C σ) (l:List ah) (k:SK) (id:aI) (kd:Int) (hl:b8 l):cE Tryz.prog C 21 [] [aw k (l.map ah.cells),.agg id.cells,.int .i64 kd] (.int .i64 (kX σ l id kd)):=by
 refine aB (S.pureT _ (by decide)) fun H=>am Tryz.func21 rfl (S.prim _ (by decide)) (by simp) (by kernel_rfl) ?_
 unfold Tryz.f21 kX
 have e:=(Ai S.tobB l k id hl).eq
 cases hf:gJ σ l id with
 | none =>
  rw [hf] at e
  simp only [Option.getD_none,Option.isSome_none] at e
  simp [aG,e,ao,aE]
 | some x =>
  rw [hf] at e
  simp only [Option.getD_some,Option.isSome_some] at e
  by_cases hk:x.kind=kd
  ·simp [aG,e,ao,aE,hk]
  ·simp [aG,e,ao,aE,hk]
end Go.Proofs.Ev
