/- Part 25 of the proof that quiltlaw38.BlameNames returns true: no statement of its own. -/
import Derived.Test.YtckbkhfaahpanaaGreatDoorN24
import Derived.Test.YtckbkhfaahpanaaGreatDoorN23
set_option linter.all false
namespace Go.Proofs.Ev
open Go.Proofs
variable {C:Cfg} {σ:Sorts}
def addG {α:Type} (M:List (IdV×List α)) (d:IdV) (y:α):List (IdV×List α) :=
 match M with
 | []=>[(d,[y])]
 | x::M=>if sameId x.1 d then (x.1,x.2++[y])::M else x::addG M d y
def lookG {α:Type} (M:List (IdV×List α)) (d:IdV):List α :=
 match M with
 | []=>[]
 | x::M=>if sameId x.1 d then x.2 else lookG M d
theorem lookG_add {α:Type} (d d':IdV) (y:α):∀M:List (IdV×List α),lookG (addG M d y) d'=lookG M d'++if sameId d d' then [y] else []
 | []=>by simp only [addG,lookG];cases sameId d d'<;>simp
 | x::M=>by
  rw [addG,lookG]
  cases h:sameId x.1 d with
  | true =>
   have hx:=sameId_eq h
   rw [if_pos rfl,lookG,hx]
   cases h2:sameId d d'<;>simp
  | false =>
   rw [if_neg (by decide),lookG,lookG_add d d' y M]
   cases h2:sameId x.1 d' with
   | true =>
    have hx:=sameId_eq h2
    have h3:sameId d d'=false:=by rw [←hx,sameId_comm];exact h
    simp [h3]
   | false=>simp
structure AR where
 k:IdV
 b:Nat
 g:Nat
 l:List AtV
def AR.v (t:AR):AV:=.sl t.b t.g 172 0 t.l.length
def AR.e (t:AR):IdV×AV:=(t.k,t.v)
def AR.m (t:AR):IdV×List AtV:=(t.k,t.l)
def AsIs (lo:Nat) (T:List AR) (X:Heap):Prop:=(∀t∈T,t.l≠[]∧lo≤t.b∧X[t.b]?=some (.rows 172 t.g (t.l.map AtV.cells)))∧∀(i j:Nat) (t u:AR),T[i]?=some t→T[j]?=some u→i≠j→t.b≠u.b
theorem AsIs.keep {lo:Nat} {T:List AR} {X X':Heap} (h:AsIs lo T X) (hX:∀t∈T,X[t.b]?=some (Blk.rows 172 t.g (t.l.map AtV.cells))→X'[t.b]?=some (Blk.rows 172 t.g (t.l.map AtV.cells))):AsIs lo T X' :=
 ⟨fun t ht=>⟨(h.1 t ht).1,(h.1 t ht).2.1,hX t ht (h.1 t ht).2.2⟩,h.2⟩
theorem addA_some {d:IdV} {y:AtV} {b g:Nat}:∀{T:List AR} {i:Nat} {v:AV} {t:AR},posK (T.map AR.e) d=some (i,v)→T[i]?=some t→addG (T.map AR.m) d y=(T.set i ⟨d,b,g,t.l++[y]⟩).map AR.m
 | [],i,v,t,h,_=>by cases h
 | x::T,i,v,t,h,ht=>by
  have hc:posK ((x::T).map AR.e) d=if sameId x.k d then some (0,x.v) else (posK (T.map AR.e) d).map fun p=>(p.1+1,p.2):=rfl
  have ha:addG ((x::T).map AR.m) d y=if sameId x.k d then (x.k,x.l++[y])::T.map AR.m else x.m::addG (T.map AR.m) d y:=rfl
  rw [hc] at h
  rw [ha]
  cases hs:sameId x.k d with
  | true =>
   rw [hs,if_pos rfl] at h
   cases h
   rw [List.getElem?_cons_zero] at ht
   cases ht
   rw [if_pos rfl,List.set_cons_zero,List.map_cons,sameId_eq hs];rfl
  | false =>
   rw [hs,if_neg (by decide)] at h
   rw [if_neg (by decide)]
   cases hp:posK (T.map AR.e) d with
   | none=>rw [hp] at h;cases h
   | some p =>
    rw [hp] at h
    cases h
    rw [List.getElem?_cons_succ] at ht
    rw [addA_some (b:=b) (g:=g) hp ht,List.set_cons_succ,List.map_cons]
theorem addA_none {d:IdV} {y:AtV}:∀{T:List AR},posK (T.map AR.e) d=none→addG (T.map AR.m) d y=T.map AR.m++[(d,[y])]
 | [],_=>rfl
 | x::T,h=>by
  have hc:posK ((x::T).map AR.e) d=if sameId x.k d then some (0,x.v) else (posK (T.map AR.e) d).map fun p=>(p.1+1,p.2):=rfl
  have ha:addG ((x::T).map AR.m) d y=if sameId x.k d then (x.k,x.l++[y])::T.map AR.m else x.m::addG (T.map AR.m) d y:=rfl
  rw [hc] at h
  rw [ha]
  cases hs:sameId x.k d with
  | true=>rw [hs,if_pos rfl] at h;cases h
  | false =>
   rw [hs,if_neg (by decide)] at h
   rw [if_neg (by decide),addA_none (by simpa using h)];rfl
set_option maxHeartbeats 2000000 in
theorem name_op (S:Setting C) {base lo m n:Nat} {T:List AR} {V:Heap} (hbm:base≤m) (hbl:base≤lo) (hml:m<lo) (hlo:lo≤V.length) (hm:V[m]?=some (.map (entI (T.map AR.e)))) (hA:AsIs lo T V) (hn:∀t∈T,t.l.length≤n) (hn2:n≤2^32) (d:IdV) (y:AtV) :
 ∃v i V1 sl V2 V3 T',mapEntryA Tryz.prog C base V 91 (.map m) (.agg d.cells)=some (.tup [v,.int .i64 i],V1)∧appendA Tryz.prog base V1 #[83,83] v.denil (.lst [y.cells] true)=some (sl,V2)∧
  entryStoreA base V2 (.map m) (.int .i64 i) sl=some V3∧V3[m]?=some (.map (entI (T'.map AR.e)))∧T'.map AR.m=addG (T.map AR.m) d y∧AsIs lo T' V3∧(∀t∈T',t.l.length≤n+1)∧V.length≤V3.length∧
  ∀b blk,V[b]?=some blk→b≠m→(∀t∈T,b≠t.b)→V3[b]?=some blk∧∀t∈T',b≠t.b:=by
 have hmV:m<V.length:=(List.getElem?_eq_some_iff.1 hm).1
 have hf:=find_I S d (T.map AR.e) 0
 have hy:∀r∈[y.cells],r.length=172:=by simp
 cases hp:posK (T.map AR.e) d with
 | none =>
  rw [hp] at hf
  have hme:mapEntryA Tryz.prog C base V 91 (.map m) (.agg d.cells)=some (.tup [.nils,.int .i64 (T.length:Int)],V.set m (.map (entI (T.map AR.e)++[(.agg d.cells,.nils)]))):=by
   simp only [mapEntryA,un91,keyOk_I S,hm,hf,hbm,and_self,if_true,Option.map_none]
   simp [entI]
  obtain ⟨b,g,V2,ha,hb,hk,hd,hbb,hl⟩:=app_abs (P:=Tryz.prog) (base:=base) (ts:=#[83,83]) (e:=36) (xd:=.slice 36) (X:=V.set m (.map (entI (T.map AR.e)++[(.agg d.cells,.nils)]))) (v:=.nils) (rows:=[]) (x:=.lst [y.cells] true) (ys:=[y.cells])
   (by simp) (by simp) sz36 by36 (by simp) (by decide) (by simp;omega) (.inl ⟨rfl,rfl⟩) rfl hy (by simp) (by simp)
  have hbl2:b=V.length:=by
   rcases hd with ⟨_,_,hd⟩ | hd
   ·cases hd
   ·simpa using hd.2
  subst hbl2
  have hm2:V2[m]?=some (.map (entI (T.map AR.e)++[(.agg d.cells,.nils)])):=by rw [hk m (by omega) (by simpa using hmV),List.getElem?_set_self hmV]
  have hm2l:m<V2.length:=(List.getElem?_eq_some_iff.1 hm2).1
  have hkeep:∀b blk,b≠m→V[b]?=some blk→(V2.set m (.map (entI ((T++[AR.mk d V.length g [y]]).map AR.e))))[b]?=some blk:=fun b blk hbm hbv=>by
   have hbl:=(List.getElem?_eq_some_iff.1 hbv).1
   rw [List.getElem?_set_ne (Ne.symm hbm),hk b (by omega) (by simpa using hbl),List.getElem?_set_ne (Ne.symm hbm)];exact hbv
  refine ⟨_,_,_,_,V2,V2.set m (.map (entI ((T++[AR.mk d V.length g [y]]).map AR.e))),T++[AR.mk d V.length g [y]],hme,ha,?_,by rw [List.getElem?_set_self hm2l],?_,⟨?_,?_⟩,?_,by simpa using hl,?_⟩
  ·simp only [entryStoreA,hbm,hm2]
   simp [entI,AR.e,AR.v]
  ·rw [addA_none hp,List.map_append];rfl
  ·intro t ht
   rcases List.mem_append.1 ht with ht | ht
   ·obtain ⟨h0,h1,h2⟩:=hA.1 t ht
    exact ⟨h0,h1,hkeep _ _ (fun h=>by rw [h,hm] at h2;cases h2) h2⟩
   ·rw [List.mem_singleton] at ht
    subst ht
    refine ⟨by simp,hlo,?_⟩
    rw [List.getElem?_set_ne (by show m≠V.length;omega)];exact hb
  ·intro i j t u hi hj hij
   have old:∀(i:Nat) (t:AR),T[i]?=some t→t.b<V.length:=fun i t ht=>(List.getElem?_eq_some_iff.1 (hA.1 t (List.mem_of_getElem? ht)).2.2).1
   rcases Nat.lt_or_ge i T.length with hi' | hi'<;>rcases Nat.lt_or_ge j T.length with hj' | hj'
   ·rw [List.getElem?_append_left hi'] at hi;rw [List.getElem?_append_left hj'] at hj;exact hA.2 i j t u hi hj hij
   ·rw [List.getElem?_append_left hi'] at hi;rw [List.getElem?_append_right hj'] at hj
    have:=old i t hi
    cases hjj:j-T.length with
    | zero=>rw [hjj] at hj;cases hj;simp only;omega
    | succ q=>rw [hjj] at hj;cases hj
   ·rw [List.getElem?_append_right hi'] at hi;rw [List.getElem?_append_left hj'] at hj
    have:=old j u hj
    cases hii:i-T.length with
    | zero=>rw [hii] at hi;cases hi;simp only;omega
    | succ q=>rw [hii] at hi;cases hi
   ·have h1:=(List.getElem?_eq_some_iff.1 hi).1
    have h2:=(List.getElem?_eq_some_iff.1 hj).1
    simp at h1 h2;omega
  ·intro t ht
   rcases List.mem_append.1 ht with ht | ht
   ·have:=hn t ht;omega
   ·rw [List.mem_singleton] at ht;subst ht;simp
  ·intro b blk hbv hbm hbt
   refine ⟨hkeep b blk hbm hbv,fun t ht=>?_⟩
   rcases List.mem_append.1 ht with ht | ht
   ·exact hbt t ht
   ·rw [List.mem_singleton] at ht;subst ht
    have:=(List.getElem?_eq_some_iff.1 hbv).1
    simp only;omega
 | some p =>
  obtain ⟨i,v⟩:=p
  rw [hp] at hf
  have hTi:=posK_some hp
  rw [List.getElem?_map] at hTi
  cases htt:T[i]? with
  | none=>rw [htt] at hTi;cases hTi
  | some t =>
   rw [htt] at hTi
   have hte:t.e=(d,v):=by simpa using hTi
   have htk:t.k=d:=congrArg Prod.fst hte
   have htv:t.v=v:=congrArg Prod.snd hte
   have hil:i<T.length:=(List.getElem?_eq_some_iff.1 htt).1
   have htm:=List.mem_of_getElem? htt
   obtain ⟨s0,s1,s2⟩:=hA.1 t htm
   have hent:(entI (T.map AR.e)).set i (.agg d.cells,v)=entI (T.map AR.e):=by
    have he:(entI (T.map AR.e))[i]?=some (.agg d.cells,v):=by rw [entI,List.getElem?_map,List.getElem?_map,htt];simp [hte]
    obtain ⟨hi,he⟩:=List.getElem?_eq_some_iff.1 he
    rw [←he,List.set_getElem_self]
   have hme:mapEntryA Tryz.prog C base V 91 (.map m) (.agg d.cells)=some (.tup [v,.int .i64 (i:Int)],V.set m (.map (entI (T.map AR.e)))):=by
    simp only [mapEntryA,un91,keyOk_I S,hm,hf,hbm,and_self,if_true,Option.map_some,Nat.add_zero,hent]
   have hVs:V.set m (.map (entI (T.map AR.e)))=V:=by
    obtain ⟨hi,he⟩:=List.getElem?_eq_some_iff.1 hm
    rw [←he,List.set_getElem_self]
   rw [hVs] at hme
   have hll:=hn t htm
   obtain ⟨b,g,V2,ha,hb,hk,hd,hbb,hl⟩:=app_abs (P:=Tryz.prog) (base:=base) (ts:=#[83,83]) (e:=36) (xd:=.slice 36) (X:=V) (v:=v) (rows:=t.l.map AtV.cells) (x:=.lst [y.cells] true) (ys:=[y.cells])
    (by simp) (by simp) sz36 by36 (by simp) (by decide) (by omega) (.inr ⟨t.b,t.g,by rw [←htv,AR.v,List.length_map],s2,by omega⟩) rfl hy (by simp) (by simp;omega)
   have hbt:b=t.b:=by
    rcases hd with ⟨_,_,hd⟩ | hd
    ·rw [←htv,AR.v] at hd;cases hd;rfl
    ·rw [←htv] at hd;cases hd.1
   subst hbt
   have hmb:m≠t.b:=by omega
   have hm2:V2[m]?=some (.map (entI (T.map AR.e))):=by rw [hk m hmb hmV];exact hm
   have hm2l:m<V2.length:=(List.getElem?_eq_some_iff.1 hm2).1
   have hes:(entI (T.map AR.e))[i]?=some (.agg d.cells,v):=by rw [entI,List.getElem?_map,List.getElem?_map,htt];simp [hte]
   obtain ⟨t',ht'⟩:∃t',t'=AR.mk d t.b g (t.l++[y]):=⟨_,rfl⟩
   have htb:t'.b=t.b:=by rw [ht']
   have hen:(entI (T.map AR.e)).set i (.agg d.cells,.sl t.b g 172 0 ((t.l.map AtV.cells).length+[y.cells].length))=entI ((T.set i t').map AR.e):=by
    rw [ht',List.map_set,entI,entI,List.map_set]
    simp [AR.e,AR.v]
   have hkeep:∀b blk,b≠m→b≠t.b→V[b]?=some blk→(V2.set m (.map (entI ((T.set i t').map AR.e))))[b]?=some blk:=fun b blk hbm hbt hbv=>by
    have hbl:=(List.getElem?_eq_some_iff.1 hbv).1
    rw [List.getElem?_set_ne (Ne.symm hbm),hk b hbt hbl];exact hbv
   refine ⟨_,_,_,_,V2,V2.set m (.map (entI ((T.set i t').map AR.e))),T.set i t',hme,ha,?_,by rw [List.getElem?_set_self hm2l],?_,⟨?_,?_⟩,?_,by simpa using hl,?_⟩
   ·simp only [entryStoreA,hbm,hm2]
    rw [if_pos ⟨trivial,by omega⟩]
    simp only [Int.toNat_natCast,hes,hen]
   ·rw [addA_some (b:=t.b) (g:=g) hp htt,ht']
   ·intro u hu
    obtain ⟨j,hj,rfl⟩:=List.getElem_of_mem hu
    by_cases hij:i=j
    ·subst hij
     rw [List.getElem_set_self,htb]
     refine ⟨by rw [ht'];simp,s1,?_⟩
     rw [List.getElem?_set_ne hmb,hb,ht'];simp
    ·rw [List.getElem_set_ne hij]
     have hjl:j<T.length:=by simpa using hj
     obtain ⟨u0,u1,u2⟩:=hA.1 T[j] (List.getElem_mem hjl)
     have hub:=hA.2 j i T[j] t (List.getElem?_eq_getElem hjl) htt (Ne.symm hij)
     exact ⟨u0,u1,hkeep _ _ (by omega) hub u2⟩
   ·intro j1 j2 u w hj1 hj2 hne
    have get:∀(j:Nat) (u:AR),(T.set i t')[j]?=some u→∃u':AR,T[j]?=some u'∧u'.b=u.b:=by
     intro j u hj
     by_cases hij:i=j
     ·subst hij
      rw [List.getElem?_set_self hil] at hj
      cases hj
      exact ⟨t,htt,htb.symm⟩
     ·rw [List.getElem?_set_ne hij] at hj
      exact ⟨u,hj,rfl⟩
    obtain ⟨u',hu1,hu2⟩:=get j1 u hj1
    obtain ⟨w',hw1,hw2⟩:=get j2 w hj2
    rw [←hu2,←hw2]
    exact hA.2 j1 j2 u' w' hu1 hw1 hne
   ·intro u hu
    rcases List.mem_or_eq_of_mem_set hu with hu | rfl
    ·have:=hn u hu;omega
    ·rw [ht'];simp;omega
   ·intro b blk hbv hbm hbt
    refine ⟨hkeep b blk hbm (hbt t htm) hbv,fun u hu=>?_⟩
    rcases List.mem_or_eq_of_mem_set hu with hu | rfl
    ·exact hbt u hu
    ·rw [htb];exact hbt t htm
theorem posA_look:∀(T:List AR) (d:IdV),(∀i v,posK (T.map AR.e) d=some (i,v)→∃t,T[i]?=some t∧v=t.v∧lookG (T.map AR.m) d=t.l)∧(posK (T.map AR.e) d=none→lookG (T.map AR.m) d=[])
 | [],d=>by simp [posK,lookG]
 | x::T,d=>by
  have ih:=posA_look T d
  have hc:posK ((x::T).map AR.e) d=if sameId x.k d then some (0,x.v) else (posK (T.map AR.e) d).map fun p=>(p.1+1,p.2):=rfl
  have ha:lookG ((x::T).map AR.m) d=if sameId x.k d then x.l else lookG (T.map AR.m) d:=rfl
  rw [hc,ha]
  cases hs:sameId x.k d with
  | true=>exact ⟨fun i v h=>by simp at h;obtain ⟨rfl,rfl⟩:=h;exact ⟨x,rfl,rfl,by simp⟩,by simp⟩
  | false =>
   simp only [Bool.false_eq_true,if_false]
   refine ⟨fun i v h=>?_,fun h=>ih.2 (by simpa using h)⟩
   cases hp:posK (T.map AR.e) d with
   | none=>rw [hp] at h;cases h
   | some p =>
    rw [hp] at h
    cases h
    obtain ⟨t,h1,h2,h3⟩:=ih.1 p.1 p.2 hp
    exact ⟨t,by simpa using h1,h2,h3⟩
theorem look_name (S:Setting C) {V:Heap} {m lo:Nat} {T:List AR} (hm:V[m]?=some (.map (entI (T.map AR.e)))) (hks:AsIs lo T V) (d:IdV) :
 ∃v,SlIs lo 172 V v ((lookG (T.map AR.m) d).map AtV.cells)∧lookupA Tryz.prog C V 91 (.map m) (.agg d.cells) false=some v:=by
 have hf:=find_I S d (T.map AR.e) 0
 obtain ⟨h1,h2⟩:=posA_look T d
 simp only [lookupA,un91,keyOk_I S,entsA,hm,hf,if_true]
 cases hp:posK (T.map AR.e) d with
 | none=>exact ⟨.nils,.inl ⟨by rw [h2 hp];rfl,rfl⟩,by simp⟩
 | some p =>
  obtain ⟨t,ht,hv,hl⟩:=h1 p.1 p.2 hp
  have htm:=List.mem_of_getElem? ht
  obtain ⟨a0,a1,a2⟩:=hks.1 t htm
  rw [hl]
  exact ⟨t.v,.inr ⟨by simpa using a0,t.b,t.g,by rw [AR.v,List.length_map],a2,a1⟩,by simp [hv]⟩
end Go.Proofs.Ev
namespace Go.Proofs.Ev
open Go.Proofs
variable {C:Cfg} {σ:Sorts}
def filesM (L:List AtV):List AtV:=L.filter fun a=>decide (a.kind=1)
def stepN (al:List IdV) (M:List (IdV×List AtV)) (a:AtV):List (IdV×List AtV):=if a.kind=2∧hasI al a.id=true then addG M a.file a else M
def nameM (al:List IdV) (L:List AtV):List (IdV×List AtV):=L.foldl (stepN al) []
theorem look_step (al:List IdV) (d:IdV):∀(L:List AtV) (M:List (IdV×List AtV)),lookG (L.foldl (stepN al) M) d=lookG M d++L.filter fun a=>decide (a.kind=2)&&hasI al a.id&&sameId a.file d
 | [],M=>by simp
 | a::L,M=>by
  rw [List.foldl_cons,look_step al d L (stepN al M a),List.filter_cons]
  unfold stepN
  by_cases h1:a.kind=2
  ·cases h2:hasI al a.id with
   | true =>
    rw [if_pos ⟨h1,rfl⟩,lookG_add]
    cases h3:sameId a.file d<;>simp [h1]
   | false=>simp [h1]
  ·simp [h1]
theorem look_names (al:List IdV) (L:List AtV) (d:IdV):lookG (nameM al L) d=L.filter fun a=>decide (a.kind=2)&&hasI al a.id&&sameId a.file d:=by
 unfold nameM;rw [look_step];simp [lookG]
structure GaX (lo m1 m2:Nat) (al:List IdV) (M:List (IdV×List AtV)) (F:List AtV) (v:AV) (n:Nat) (X:Heap):Prop where
 h1:X[m1]?=some (.map (entI (retE al)))
 o:∃T:List AR,X[m2]?=some (.map (entI (T.map AR.e)))∧T.map AR.m=M∧AsIs lo T X∧(∀t∈T,t.l.length≤n)∧∀t∈T,∀b g l,v=.sl b g 172 0 l→t.b≠b
 f:SlIs lo 172 X v (F.map AtV.cells)
 low:m1<lo∧m2<lo∧m1≠m2∧lo≤X.length
theorem GaX.keep {lo m1 m2 n:Nat} {al:List IdV} {M:List (IdV×List AtV)} {F:List AtV} {v:AV} {X X':Heap} (h:GaX lo m1 m2 al M F v n X) (hk:∀(b:Nat) (blk:Blk),X[b]?=some blk→(∀g rs,blk=.rows 172 g rs→lo≤b)→b=m1∨b=m2∨lo≤b→X'[b]?=some blk) (hl:X.length≤X'.length):GaX lo m1 m2 al M F v n X':=by
 obtain ⟨h1,⟨T,t1,t2,t3,t4,t5⟩,hf,hlow⟩:=h
 exact ⟨hk _ _ h1 (by intro g rs h;cases h) (.inl rfl),⟨T,hk _ _ t1 (by intro g rs h;cases h) (.inr (.inl rfl)),t2,t3.keep fun t ht h=>hk _ _ h (fun _ _ _=>(t3.1 t ht).2.1) (.inr (.inr (t3.1 t ht).2.1)),t4,t5⟩,hf.keep fun b g rs hb h=>hk _ _ h (fun _ _ _=>hb) (.inr (.inr hb)),hlow.1,hlow.2.1,hlow.2.2.1,by omega⟩
theorem GaX.keep2 {lo m1 m2 n:Nat} {al:List IdV} {M:List (IdV×List AtV)} {F:List AtV} {v:AV} {X X':Heap} (h:GaX lo m1 m2 al M F v n X) (hk:∀(b:Nat) (blk:Blk),X[b]?=some blk→((∃es,blk=.map es)∨∃g rs,blk=.rows 172 g rs)→X'[b]?=some blk) (hl:X.length≤X'.length):GaX lo m1 m2 al M F v n X':=by
 obtain ⟨h1,⟨T,t1,t2,t3,t4,t5⟩,hf,hlow⟩:=h
 exact ⟨hk _ _ h1 (.inl ⟨_,rfl⟩),⟨T,hk _ _ t1 (.inl ⟨_,rfl⟩),t2,t3.keep fun t ht h=>hk _ _ h (.inr ⟨_,_,rfl⟩),t4,t5⟩,hf.keep fun b g rs hb h=>hk _ _ h (.inr ⟨_,_,rfl⟩),hlow.1,hlow.2.1,hlow.2.2.1,by omega⟩
theorem GaX.more {lo m1 m2 n n':Nat} {al:List IdV} {M:List (IdV×List AtV)} {F:List AtV} {v:AV} {X:Heap} (h:GaX lo m1 m2 al M F v n X) (hn:n≤n'):GaX lo m1 m2 al M F v n' X:=by
 obtain ⟨h1,⟨T,t1,t2,t3,t4,t5⟩,hf,hlow⟩:=h
 exact ⟨h1,⟨T,t1,t2,t3,fun t ht=>Nat.le_trans (t4 t ht) hn,t5⟩,hf,hlow⟩
theorem GaX.app {lo m1 m2 n:Nat} {al:List IdV} {M:List (IdV×List AtV)} {F:List AtV} {v:AV} {X:Heap} (h:GaX lo m1 m2 al M F v n X) (L:Heap):GaX lo m1 m2 al M F v n (X++L) :=
 h.keep (fun b blk hb _ _=>by rw [List.getElem?_append_left (List.getElem?_eq_some_iff.1 hb).1];exact hb) (by simp)
theorem GaX.file {lo m1 m2 n base:Nat} {al:List IdV} {M:List (IdV×List AtV)} {F:List AtV} {v:AV} {X:Heap} (h:GaX lo m1 m2 al M F v n X) (hb:base≤lo) (hF:F.length≤2^20) (a:AtV) :
 ∃v' X',appendA Tryz.prog base X #[83,83] v.denil (.lst [a.cells] true)=some (v',X')∧GaX lo m1 m2 al M (F++[a]) v' n X'∧v'.leaf=true∧v'.cells=[v']∧X.length≤X'.length∧∀b blk,X[b]?=some blk→(∀b2 g l,v=.sl b2 g 172 0 l→b≠b2)→X'[b]?=some blk:=by
 obtain ⟨h1,⟨T,t1,t2,t3,t4,t5⟩,hf,hlow⟩:=h
 obtain ⟨v',X',ha,hS,hl,⟨b',g',l',rfl⟩,hk⟩:=hf.append (P:=Tryz.prog) (base:=base) (ts:=#[83,83]) (e:=36) (xd:=.slice 36) (x:=.lst [a.cells] true) (ys:=[a.cells])
  (by simp) (by simp) sz36 by36 (by simp) (by decide) hb hlow.2.2.2 rfl (by simp) (by simp) (by simp;omega)
 have hsm:∀b blk,X[b]?=some blk→b<lo→X'[b]?=some blk:=fun b blk hb hbl=>(hk b blk hb (by
  intro b2 g l hv hbb
  rcases hf with ⟨_,h⟩ | ⟨_,b3,g3,h,h2,h3⟩
  ·rw [hv] at h;cases h
  ·rw [hv] at h;cases h;omega)).1
 have hT:∀t∈T,X'[t.b]?=some (.rows 172 t.g (t.l.map AtV.cells))∧∀b g l,AV.sl b' g' 172 0 l'=.sl b g 172 0 l→t.b≠b:=fun t ht=>hk _ _ (t3.1 t ht).2.2 fun b g l hv=>t5 t ht b g l hv
 refine ⟨_,X',ha,⟨hsm _ _ h1 hlow.1,⟨T,hsm _ _ t1 hlow.2.1,t2,t3.keep fun t ht _=>(hT t ht).1,t4,fun t ht=>(hT t ht).2⟩,by rw [List.map_append];exact hS,hlow.1,hlow.2.1,hlow.2.2.1,by omega⟩,rfl,rfl,hl,fun b blk hb hv=>(hk b blk hb hv).1⟩
theorem GaX.name (S:Setting C) {lo m1 m2 n base:Nat} {al:List IdV} {M:List (IdV×List AtV)} {F:List AtV} {v:AV} {X:Heap} (h:GaX lo m1 m2 al M F v n X) (hb:base≤m2) (hn:n≤2^32) (d:IdV) (y:AtV) :
 ∃u i V1 sl V2 V3,mapEntryA Tryz.prog C base X 91 (.map m2) (.agg d.cells)=some (.tup [u,.int .i64 i],V1)∧appendA Tryz.prog base V1 #[83,83] u.denil (.lst [y.cells] true)=some (sl,V2)∧
  entryStoreA base V2 (.map m2) (.int .i64 i) sl=some V3∧GaX lo m1 m2 al (addG M d y) F v (n+1) V3∧X.length≤V3.length∧∀b blk,X[b]?=some blk→b<lo→b≠m2→V3[b]?=some blk:=by
 obtain ⟨h1,⟨T,t1,t2,t3,t4,t5⟩,hf,hlow⟩:=h
 obtain ⟨u,i,V1,sl,V2,V3,T',e1,e2,e3,g1,g2,g3,g4,g5,g6⟩:=name_op S hb (by omega) hlow.2.1 hlow.2.2.2 t1 t3 t4 hn d y
 have hsm:∀b blk,X[b]?=some blk→b<lo→b≠m2→V3[b]?=some blk:=fun b blk hb hbl hne=>(g6 b blk hb hne fun t ht=>by have:=(t3.1 t ht).2.1;omega).1
 refine ⟨u,i,V1,sl,V2,V3,e1,e2,e3,⟨hsm _ _ h1 hlow.1 hlow.2.2.1,⟨T',g1,by rw [g2,t2],g3,g4,fun t ht b g l hv hbb=>?_⟩,?_,hlow.1,hlow.2.1,hlow.2.2.1,by omega⟩,g5,hsm⟩
 ·rcases hf with ⟨_,h⟩ | ⟨_,b3,g3,h,h2,h3⟩
  ·rw [hv] at h;cases h
  ·rw [hv] at h;cases h
   exact (g6 _ _ h2 (by omega) fun t ht=>Ne.symm (t5 t ht _ _ _ hv)).2 t ht hbb.symm
 ·rcases hf with h | ⟨h0,b3,g3,h,h2,h3⟩
  ·exact .inl h
  ·exact .inr ⟨h0,b3,g3,h,(g6 _ _ h2 (by omega) fun t ht=>Ne.symm (t5 t ht _ _ _ h)).1,h3⟩
end Go.Proofs.Ev
namespace Go.Proofs.Ev
open Go.Proofs
variable {C:Cfg} {σ:Sorts}
theorem GaX.alive {lo m1 m2 n:Nat} {al:List IdV} {M:List (IdV×List AtV)} {F:List AtV} {v:AV} {X:Heap} (h:GaX lo m1 m2 al M F v n X) (al':List IdV):GaX lo m1 m2 al' M F v n (X.set m1 (.map (entI (retE al')))):=by
 obtain ⟨h1,⟨T,t1,t2,t3,t4,t5⟩,hf,hlow⟩:=h
 have hm1:m1<X.length:=by omega
 have hk:∀b blk,b≠m1→X[b]?=some blk→(X.set m1 (.map (entI (retE al'))))[b]?=some blk:=fun b blk hb h=>by rw [List.getElem?_set_ne (Ne.symm hb)];exact h
 exact ⟨by rw [List.getElem?_set_self hm1],⟨T,hk _ _ (Ne.symm hlow.2.2.1) t1,t2,t3.keep fun t ht h=>hk _ _ (by have:=(t3.1 t ht).2.1;omega) h,t4,t5⟩,hf.keep fun b g rs hb h=>hk _ _ (by omega) h,hlow.1,hlow.2.1,hlow.2.2.1,by simp;omega⟩
def gaZ:Blk:=.rows 7 0 [[.nils,.nils,.nilm,.nils,.nilm,.nilm,.nilm]]
def gaR (v0 la v:AV) (m1 m2:Nat):Blk:=.rows 7 0 [[v0,la,.map m1,v,.map m2,.nilm,.nilm]]
theorem filesM_snoc (L:List AtV) (a:AtV):filesM (L++[a])=filesM L++if a.kind=1 then [a] else []:=by
 unfold filesM;rw [List.filter_append];by_cases h:a.kind=1<;>simp [h]
theorem nameM_snoc (al:List IdV) (L:List AtV) (a:AtV):nameM al (L++[a])=stepN al (nameM al L) a:=by
 unfold nameM;rw [List.foldl_append];rfl
theorem filesM_len (L:List AtV):(filesM L).length≤L.length:=List.length_filter_le _ _
set_option maxRecDepth 100000 in
set_option maxHeartbeats 4000000 in
theorem gather_ex (S:SettingU C σ) {s0:List StoredV} {k:SK} (hs:SetGood s0) (h8:s0.length≤8) {base:Nat} {H:Heap} (hb:base≤H.length) :
 ∃V v,∃L LI:List AtV,L.Perm (allA σ s0)∧LI.Perm (allA σ s0)∧GaX (H.length+4) (H.length+1) (H.length+2) ((liveI σ s0 LI).foldl addI []) (nameM ((liveI σ s0 LI).foldl addI []) L) (filesM L) v (2^20) V∧v.leaf=true∧v.cells=[v]∧
  ∀K:AV→Heap→Prop,CallW Tryz.prog C base (.fn 30 []) [slAV k (s0.map StoredV.cells)] H K=K (.agg [slAV k (s0.map StoredV.cells),slAV (nlK L) (L.map AtV.cells),.map (H.length+1),v,.map (H.length+2),.nilm,.nilm]) V:=by
 obtain ⟨v0,hv0⟩:∃v0,v0=slAV k (s0.map StoredV.cells):=⟨_,rfl⟩
 have hv0l:v0.leaf=true:=by rw [hv0];simp
 have hv0c:v0.cells=[v0]:=by rw [hv0];simp
 rw [←hv0]
 suffices h:∃L LI:List AtV,L.Perm (allA σ s0)∧LI.Perm (allA σ s0)∧CallW Tryz.prog C base (.fn 30 []) [v0] H (fun v' V=>∃v,v'=.agg [v0,slAV (nlK L) (L.map AtV.cells),.map (H.length+1),v,.map (H.length+2),.nilm,.nilm]∧GaX (H.length+4) (H.length+1) (H.length+2) ((liveI σ s0 LI).foldl addI []) (nameM ((liveI σ s0 LI).foldl addI []) L) (filesM L) v (2^20) V∧v.leaf=true∧v.cells=[v]) by
  obtain ⟨L,LI,h1,h2,n,v1,V,h3,v,rfl,h4,h5,h6⟩:=h
  exact ⟨V,v,L,LI,h1,h2,h4,h5,h6,fun K=>CallW.eq ⟨n,_,_,h3,rfl,rfl⟩ K⟩
 obtain ⟨L,hL,ea⟩:=any_LAtoms S (k:=k) hs h8 base (H++[gaZ])
 obtain ⟨la,hla⟩:∃la,la=slAV (nlK L) (L.map AtV.cells):=⟨_,rfl⟩
 have hlal:la.leaf=true:=by rw [hla];simp
 have hlac:la.cells=[la]:=by rw [hla];simp
 obtain ⟨LI,hLI,el⟩:=any_Living S (k:=k) hs h8 base (H++[gaZ,.map [],.map [],gaR v0 la .nils (H.length+1) (H.length+2)])
 rw [←hla] at ea
 rw [←hv0] at ea el
 refine ⟨L,LI,hL,hLI,?_⟩
 rw [←hla]
 have hLl:=perm_len hs h8 hL
 have hIl:=liveI_len (σ:=σ) s0 LI
 have hLIl:=perm_len hs h8 hLI
 obtain ⟨ids,hids⟩:∃ids,ids=liveI σ s0 LI:=⟨_,rfl⟩
 rw [←hids] at el hIl ⊢
 refine call_rule (S.plainU _ (by decide)).1 (S.plainU _ (by decide)).2 (func_rule Tryz.func30 rfl (S.prim _ (by decide)) (by simp) (by kernel_rfl) ?_)
 unfold Tryz.f30
 have hz:gaZ=.rows 7 0 [[.nils,.nils,.nilm,.nils,.nilm,.nilm,.nilm]]:=rfl
 have b3:base≤H.length+3:=by omega
 have hnl:AV.nilm.leaf=true:=rfl
 refine cut (fun s X=>s 0=v0∧s 2=.ptr H.length 0 7 0 0∧X=H++[gaZ]) ?_ ?_
 ·simp [argS,hz]
 rintro s X ⟨q0,q2,hX⟩
 rw [hX];clear hX X
 refine cut (fun s X=>s 0=v0∧s 2=.ptr H.length 0 7 0 0∧s 3=.ptr (H.length+3) 0 7 0 0∧X=H++[gaZ,.map [],.map [],gaR v0 la .nils (H.length+1) (H.length+2)]) ?_ ?_
 ·simp [q0,q2,ea,storeA,fillA,hv0l,hv0c,hlal,hlac,b3,gaR]
  exact hnl
 clear q0 q2
 rintro s X ⟨q0,q2,q3,hX⟩
 obtain ⟨X0,hX0⟩:∃X0,X0=H++[gaZ,.map [],.map [],gaR v0 la .nils (H.length+1) (H.length+2)]:=⟨_,rfl⟩
 rw [←hX0] at el hX
 rw [hX];clear hX X
 have hG0:GaX (H.length+4) (H.length+1) (H.length+2) [] [] [] .nils 0 X0:=by
  rw [hX0]
  exact ⟨by rw [app_get];rfl,⟨[],by rw [app_get];rfl,rfl,⟨by simp,by simp⟩,by simp,by simp⟩,.inl ⟨rfl,rfl⟩,by omega,by omega,by omega,by simp⟩
 have hr0:X0[H.length+3]?=some (gaR v0 la .nils (H.length+1) (H.length+2)):=by rw [hX0,app_get];rfl
 have hz0:X0[H.length]?=some gaZ:=by rw [hX0,app_get0];rfl
 refine cut (fun s X=>s 2=.ptr H.length 0 7 0 0∧s 3=.ptr (H.length+3) 0 7 0 0∧GaX (H.length+4) (H.length+1) (H.length+2) (ids.foldl addI []) [] [] .nils 0 X∧X[H.length+3]?=some (gaR v0 la .nils (H.length+1) (H.length+2))∧X[H.length]?=some gaZ) ?_ ?_
 ·simp [q0,q2,q3,el]
  refine loop_count ids.length (fun i s X=>s 2=.ptr H.length 0 7 0 0∧s 3=.ptr (H.length+3) 0 7 0 0∧s 15=slAV (nlK ids) (ids.map IdV.cells)∧s 16=.int .i64 ids.length∧s 17=.int .i64 i∧GaX (H.length+4) (H.length+1) (H.length+2) ((ids.take i).foldl addI []) [] [] .nils 0 X∧X[H.length+3]?=some (gaR v0 la .nils (H.length+1) (H.length+2))∧X[H.length]?=some gaZ) ?_ ?_
  ·exact ⟨q2,q3,rfl,rfl,rfl,hG0,hr0,hz0⟩
  clear q0 q2 q3 hG0 hr0 hz0
  rintro i s X ⟨q2,q3,q15,q16,q17,hG,hr,hz1⟩ hi
  by_cases h:i<ids.length
  rotate_left
  ·have h':i=ids.length:=by omega
   subst h'
   rw [List.take_length] at hG
   simp [q2,q3,q15,q16,q17]
   exact ⟨hG,hr,hz1⟩
  obtain ⟨x,hx⟩:∃x,x=ids[i]:=⟨_,rfl⟩
  have hXl:H.length+3<X.length:=(List.getElem?_eq_some_iff.1 hr).1
  have hrM:∀M,blkRow (X++M) (H.length+3) 0 7 0=some [v0,la,.map (H.length+1),.nils,.map (H.length+2),.nilm,.nilm]:=fun M=>blk_app (by simp [blkRow,hr,gaR]) M
  have hxM:∀M,blkRow (X++Blk.rows 33 0 [x.cells]::M) X.length 0 33 0=some x.cells:=fun M=>by simp
  have hGM:=hG.app [.rows 33 0 [x.cells]]
  have eu:=upd_ret S.toSetting (base:=base) (by omega) hGM.h1 x
  have hf:(ids.take (i+1)).foldl addI []=addI ((ids.take i).foldl addI []) x:=by rw [List.take_add_one,List.getElem?_eq_getElem h,List.foldl_append,hx];rfl
  have hbX:base≤X.length:=by omega
  simp [q2,q3,q15,q16,q17,h,←hx,storeA,fillA,hbX,hrM,eu,wrap_succ h (by omega)]
  rw [hf]
  refine ⟨hGM.alive _,?_,?_⟩
  ·rw [List.getElem?_append_left hXl];exact hr
  ·rw [List.getElem?_append_left (by omega)];exact hz1
 clear q0 q2 q3 hG0 hr0 hz0 el hX0 X0
 rintro s X ⟨q2,q3,hG,hr,hz1⟩
 obtain ⟨al,hal⟩:∃al,al=ids.foldl addI []:=⟨_,rfl⟩
 rw [←hal] at hG ⊢
 refine cut (fun s X=>s 2=.ptr H.length 0 7 0 0∧s 3=.ptr (H.length+3) 0 7 0 0∧∃v,GaX (H.length+4) (H.length+1) (H.length+2) al (nameM al L) (filesM L) v (2^20) X∧X[H.length+3]?=some (gaR v0 la v (H.length+1) (H.length+2))∧X[H.length]?=some gaZ∧v.leaf=true∧v.cells=[v]) ?_ ?_
 rotate_left
 ·rintro s X ⟨q2,q3,v,hG,hr,hz1,hvl,hvc⟩
  have hXl:H.length+3<X.length:=(List.getElem?_eq_some_iff.1 hr).1
  have hr2:blkRow X (H.length+3) 0 7 0=some [v0,la,.map (H.length+1),v,.map (H.length+2),.nilm,.nilm]:=by simp [blkRow,hr,gaR]
  have hz2:X[H.length]?=some (.rows 7 0 [[.nils,.nils,.nilm,.nils,.nilm,.nilm,.nilm]]):=hz1
  have hH:H.length<X.length:=by omega
  have hzz:∀row,blkRow (X.set H.length (.rows 7 0 [row])) H.length 0 7 0=some row:=fun row=>by simp [blkRow,List.getElem?_set_self hH]
  simp [q2,q3,storeA,fillA,hr2,hz2,hb,hv0l,hlal,hvl,hnl,hzz]
  refine ⟨hG.keep (fun b blk hb' _ ho=>?_) (by simp),hvc⟩
  have hlow:=hG.low
  rw [List.getElem?_set_ne (by omega)];exact hb'
 simp [q2,q3,blkRow_eq hr,gaR,hla]
 refine loop_count L.length (fun i s X=>s 2=.ptr H.length 0 7 0 0∧s 3=.ptr (H.length+3) 0 7 0 0∧s 26=slAV (nlK L) (L.map AtV.cells)∧s 27=.int .i64 L.length∧s 28=.int .i64 i∧∃v,GaX (H.length+4) (H.length+1) (H.length+2) al (nameM al (L.take i)) (filesM (L.take i)) v i X∧X[H.length+3]?=some (gaR v0 la v (H.length+1) (H.length+2))∧X[H.length]?=some gaZ∧v.leaf=true∧v.cells=[v]) ?_ ?_
 ·exact ⟨q2,q3,rfl,rfl,rfl,.nils,hG,hr,hz1,rfl,rfl⟩
 clear q2 q3 hG hr hz1
 rintro i s X ⟨q2,q3,q26,q27,q28,v,hG,hr,hz1,hvl,hvc⟩ hi
 by_cases h:i<L.length
 rotate_left
 ·have h':i=L.length:=by omega
  subst h'
  rw [List.take_length] at hG
  simp [q2,q3,q26,q27,q28]
  rw [hla] at hr
  exact ⟨v,hG.more (by omega),hr,hz1,hvl,hvc⟩
 obtain ⟨a,ha⟩:∃a,a=L[i]:=⟨_,rfl⟩
 have htk:L.take (i+1)=L.take i++[a]:=by rw [List.take_add_one,List.getElem?_eq_getElem h,ha];rfl
 have hfs:=filesM_snoc (L.take i) a
 have hns:=nameM_snoc al (L.take i) a
 rw [←htk] at hfs hns
 have hF:=filesM_len (L.take i)
 have hti:(L.take i).length≤L.length:=by simp;omega
 have hXl:H.length+3<X.length:=(List.getElem?_eq_some_iff.1 hr).1
 have hrM:∀M,blkRow (X++M) (H.length+3) 0 7 0=some [v0,la,.map (H.length+1),v,.map (H.length+2),.nilm,.nilm]:=fun M=>blk_app (by simp [blkRow,hr,gaR]) M
 have haM:∀M,blkRow (X++Blk.rows 172 0 [a.cells]::M) X.length 0 172 0=some a.cells:=fun M=>by simp
 have hGM:=hG.app [.rows 172 0 [a.cells]]
 have hbX:base≤X.length:=by omega
 have hvb:∀b2 g l,v=.sl b2 g 172 0 l→H.length+4≤b2∧b2<X.length:=by
  intro b2 g l hv
  rcases hG.f with ⟨_,h⟩ | ⟨_,b3,g3,h,h2,h3⟩
  ·rw [hv] at h;cases h
  ·rw [hv] at h;cases h
   exact ⟨h3,(List.getElem?_eq_some_iff.1 h2).1⟩
 have lk:=look_ret S.toSetting hGM.h1 a.id
 by_cases hk1:a.kind=1
 ·have hk2:¬a.kind=2:=by omega
  obtain ⟨v',X',e1,hG',hvl',hvc',hl',hk'⟩:=hGM.file (base:=base) (by omega) (by omega) a
  have hr':X'[H.length+3]?=some (.rows 7 0 [[v0,la,.map (H.length+1),v,.map (H.length+2),.nilm,.nilm]]):=hk' _ _ (by rw [List.getElem?_append_left hXl];exact hr) fun b2 g l hv=>by have:=hvb b2 g l hv;omega
  have hz':X'[H.length]?=some gaZ:=hk' _ _ (by rw [List.getElem?_append_left (by omega)];exact hz1) fun b2 g l hv=>by have:=hvb b2 g l hv;omega
  have ha':X'[X.length]?=some (.rows 172 0 [a.cells]):=hk' _ _ (by simp) fun b2 g l hv=>by have:=hvb b2 g l hv;omega
  have hX'l:H.length+3<X'.length:=(List.getElem?_eq_some_iff.1 hr').1
  have har:∀B,blkRow (X'.set (H.length+3) B) X.length 0 172 0=some a.cells:=fun B=>by
   unfold blkRow;rw [List.getElem?_set_ne (by omega),ha'];simp
  rw [if_pos hk1] at hfs
  unfold stepN at hns
  rw [if_neg (by intro h;exact hk2 h.1)] at hns
  simp [q2,q3,q26,q27,q28,h,←ha,storeA,fillA,hbX,hrM,hk1,buildSliceA,fillRows,e1,hr',b3,har,guardV,hvl',hvc',wrap_succ h (by omega)]
  rw [hfs,hns]
  refine ⟨v',(hG'.keep (fun b blk hb' _ ho=>?_) (by simp)).more (by omega),?_,?_,hvl',hvc'⟩
  ·rw [List.getElem?_set_ne (by omega)];exact hb'
  ·rw [List.getElem?_set_self hX'l];rfl
  ·exact hz'
 rw [if_neg hk1,List.append_nil] at hfs
 by_cases hk2:a.kind=2
 rotate_left
 ·unfold stepN at hns
  rw [if_neg (by intro h;exact hk2 h.1)] at hns
  have hk2b:(a.kind==2)=false:=by simpa using hk2
  simp [q2,q3,q26,q27,q28,h,←ha,storeA,fillA,hbX,hrM,hk1,hk2b,guardV,wrap_succ h (by omega)]
  rw [hfs,hns]
  exact ⟨v,hGM.more (by omega),by rw [List.getElem?_append_left hXl];exact hr,by rw [List.getElem?_append_left (by omega)];exact hz1,hvl,hvc⟩
 cases hal2:hasI al a.id with
 | false =>
  unfold stepN at hns
  rw [if_neg (by intro h;rw [hal2] at h;cases h.2)] at hns
  rw [hal2] at lk
  simp [q2,q3,q26,q27,q28,h,←ha,storeA,fillA,hbX,hrM,hk1,hk2,guardV,lk,wrap_succ h (by omega)]
  rw [hfs,hns]
  exact ⟨v,hGM.more (by omega),by rw [List.getElem?_append_left hXl];exact hr,by rw [List.getElem?_append_left (by omega)];exact hz1,hvl,hvc⟩
 | true =>
  unfold stepN at hns
  rw [if_pos ⟨hk2,hal2⟩] at hns
  rw [hal2] at lk
  obtain ⟨u,j,V1,sl,V2,V3,e1,e2,e3,hG3,hl3,hk3⟩:=hGM.name S.toSetting (base:=base) (by omega) (by omega) a.file a
  simp [q2,q3,q26,q27,q28,h,←ha,storeA,fillA,hbX,hrM,hk1,hk2,guardV,lk,buildSliceA,fillRows,e1,e2,e3,wrap_succ h (by omega)]
  rw [hfs,hns]
  refine ⟨v,hG3,hk3 _ _ ?_ (by omega) (by omega),hk3 _ _ ?_ (by omega) (by omega),hvl,hvc⟩
  ·rw [List.getElem?_append_left hXl];exact hr
  ·rw [List.getElem?_append_left (by omega)];exact hz1
end Go.Proofs.Ev
namespace Go.Proofs.Ev
open Go.Proofs
variable {C:Cfg} {σ:Sorts}
def nameOf (a:AtV):NmV:=⟨a.id,a.parent,a.name⟩
def inodeOf (al:List IdV) (L:List AtV) (f:AtV):InV:=⟨f.id,f.type,hasI al f.id,(lookG (nameM al L) f.id).map nameOf,nlK ((lookG (nameM al L) f.id).map nameOf)⟩
def inodesP (al:List IdV) (L:List AtV):List InV:=(filesM L).map (inodeOf al L)
theorem in_build (id:IdV) (t:Int) (b:Bool):buildA Tryz.prog 47 [(0,.agg id.cells),(1,.int .i64 t),(2,.bool b)]=some (.agg (id.cells++[.int .i64 t,.bool b,.nils])):=by
 have h2:id.cells.length=33:=by simp
 have h5:zeroId.cells.length=33:=by simp
 have l2:=id.leafs
 have a1:(zeroId.cells++[AV.int .i64 0,.bool false,.nils]).drop 33=[.int .i64 0,.bool false,.nils]:=by rw [drop_skip (n:=33) h5 (by decide)];rfl
 simp [fillA,h2,a1,rec_t34,rec_d34,rec_d35]
theorem nm_build (a:AtV):buildA Tryz.prog 51 [(0,.agg a.id.cells),(1,.agg a.parent.cells),(2,.str a.name)]=some (.agg (nameOf a).cells):=by
 have h2:a.id.cells.length=33:=by simp
 have h3:a.parent.cells.length=33:=by simp
 have h5:zeroId.cells.length=33:=by simp
 have l2:=a.id.leafs
 have l3:=a.parent.leafs
 have a1:(zeroId.cells++zeroId.cells++[AV.str []]).drop 33=zeroId.cells++[.str []]:=by rw [List.append_assoc,drop_skip (n:=33) h5 (by decide)];rfl
 have a2:(a.id.cells++(zeroId.cells++[AV.str []])).drop 66=[.str []]:=by rw [drop_skip (n:=33) h2 (by decide),drop_skip (n:=33) h5 (by decide)];rfl
 have a3:(a.id.cells++(a.parent.cells++[AV.str []])).take 66=a.id.cells++a.parent.cells:=by rw [←List.append_assoc,List.take_append_of_le_length (by simp)];exact List.take_of_length_le (by simp)
 simp [fillA,h2,h3,a1,a2,a3,NmV.cells,nameOf]
theorem SlIs.at {lo sz:Nat} {X:Heap} {v:AV} {rows:List (List AV)} (h:SlIs lo sz X v rows) {j:Nat} (hj:j<rows.length):∃b g,v=.sl b g sz 0 rows.length∧X[b]?=some (.rows sz g rows)∧lo≤b:=by
 rcases h with ⟨h0,_⟩ | ⟨_,b,g,h⟩
 ·rw [h0] at hj;simp at hj
 ·exact ⟨b,g,h⟩
def InIs (lo:Nat) (X:Heap) (x:InV) (row:List AV):Prop:=∃v,row=x.file.cells++[.int .i64 x.type,.bool x.living,v]∧x.namesK=nlK x.names∧SlIs lo 67 X v (x.names.map NmV.cells)
theorem InIs.freeze {lo k d:Nat} {X:Heap} {x:InV} {row:List AV} (h:InIs lo X x row) (hk:k≤lo):row.mapM (freezeA X k (d+1))=some x.cells:=by
 obtain ⟨v,rfl,h1,h2⟩:=h
 have hf:=h2.freeze (d:=d) hk (closedss_map NmV.closed _)
 have hn:nlK (x.names.map NmV.cells)=x.namesK:=by rw [h1];unfold nlK;cases x.names<;>rfl
 rw [hn] at hf
 have hc:AV.closeds (x.file.cells++[.int .i64 x.type,.bool x.living])=true:=by simp [closeds_append,AV.closeds,AV.closed]
 have:=freezes_app (H:=X) (k:=k) (e:=d+1) (b:=[v]) hc (by simp only [List.mapM_cons,List.mapM_nil,hf];rfl)
 rw [List.append_assoc] at this
 rw [show x.file.cells++[AV.int .i64 x.type,.bool x.living,v]=x.file.cells++([.int .i64 x.type,.bool x.living]++[v]) from rfl,this]
 simp [InV.cells]
def InsIs (lo:Nat) (X:Heap) (l:List InV) (rows:List (List AV)):Prop:=l.length=rows.length∧∀(j:Nat) (x:InV) (row:List AV),l[j]?=some x→rows[j]?=some row→InIs lo X x row
theorem InsIs.keep {lo:Nat} {X X':Heap} {l:List InV} {rows:List (List AV)} (h:InsIs lo X l rows) (hk:∀(b g:Nat) (rs:List (List AV)),lo≤b→X[b]?=some (Blk.rows 67 g rs)→X'[b]?=some (Blk.rows 67 g rs)):InsIs lo X' l rows :=
 ⟨h.1,fun j x row hx hr=>by
  obtain ⟨v,h1,h2,h3⟩:=h.2 j x row hx hr
  exact ⟨v,h1,h2,h3.keep hk⟩⟩
theorem InsIs.snoc {lo:Nat} {X:Heap} {l:List InV} {rows:List (List AV)} (h:InsIs lo X l rows) {x:InV} {row:List AV} (hx:InIs lo X x row):InsIs lo X (l++[x]) (rows++[row]):=by
 refine ⟨by simp [h.1],fun j y r hy hr=>?_⟩
 rcases Nat.lt_or_ge j l.length with hj | hj
 ·rw [List.getElem?_append_left hj] at hy
  rw [List.getElem?_append_left (by have:=h.1;omega)] at hr
  exact h.2 j y r hy hr
 ·rw [List.getElem?_append_right hj] at hy
  rw [List.getElem?_append_right (by have:=h.1;omega)] at hr
  have h1:=(List.getElem?_eq_some_iff.1 hy).1
  have hj0:j-l.length=0:=by simp at h1;omega
  have hj1:j-rows.length=0:=by have:=h.1;omega
  rw [hj0] at hy;rw [hj1] at hr
  simp at hy hr
  rw [←hy,←hr];exact hx
theorem InsIs.freeze {lo k d:Nat} {X:Heap} {l:List InV} {rows:List (List AV)} {u:AV} (h:InsIs lo X l rows) (hu:SlIs lo 36 X u rows) (hk:k≤lo):freezeA X k (d+2) u=some (slAV (nlK l) (l.map InV.cells)):=by
 rcases hu with ⟨h0,rfl⟩ | ⟨h0,b,g,rfl,hg,hb⟩
 ·have:l=[]:=List.length_eq_zero_iff.1 (by rw [h.1,h0];rfl)
  subst this;simp [nlK,slAV]
 ·have:=freeze_slx (H:=X) (k:=k) (d:=d+1) (qs:=l.map InV.cells) hg (by omega) (mapM_at (by simp [h.1]) fun j hj hj'=>by
   have hjl:j<l.length:=by simpa using hj'
   rw [(h.2 j _ _ (List.getElem?_eq_getElem hjl) (List.getElem?_eq_getElem hj)).freeze hk]
   simp)
  have e2:freezeA X k (d+2) (.sl b g 36 0 rows.length)=some (.lst (l.map InV.cells) false):=this
  rw [e2]
  have hl:=h.1
  cases l with
  | nil=>exact absurd (List.length_eq_zero_iff.1 (by rw [←hl];rfl)) h0
  | cons _ _=>rfl
end Go.Proofs.Ev
namespace Go.Proofs.Ev
open Go.Proofs
variable {C:Cfg} {σ:Sorts}
section
variable {P:Program} {N base:Nat}
theorem sem_block {i:Nat} {b:Code} {s:Sl} {H:Heap} {Q:Post} (h:SemC P C N base b s H (blockQ i Q)):SemC P C N base (.block i b) s H Q:=by
 intro l hr
 obtain ⟨n,e,l',s',H',h1,h2,h3⟩:=h l hr
 cases e with
 | normal=>exact ⟨n+1,.normal,l',s',H',by simp only [codeA];rw [h1],h2,h3⟩
 | ret=>exact ⟨n+1,.ret,l',s',H',by simp only [codeA];rw [h1],h2,h3⟩
 | exit j =>
  simp only [blockQ] at h3
  by_cases hi:j=i
  ·rw [if_pos hi] at h3
   exact ⟨n+1,.normal,l',s',H',by simp only [codeA];rw [h1];simp [hi],h2,h3⟩
  ·rw [if_neg hi] at h3
   exact ⟨n+1,.exit j,l',s',H',by simp only [codeA];rw [h1];simp [hi],h2,h3⟩
theorem sem_loop {b:Code} {Q:Post} (n:Nat) (I:Nat→Sl→Heap→Prop) {s:Sl} {H:Heap} (h0:I 0 s H) (hstep:∀k s H,I k s H→k≤n→SemC P C N base b s H (cntQ I n k Q)):SemC P C N base (.loop b) s H Q:=by
 have key:∀j k s H,I k s H→k≤n→n-k<j→SemC P C N base (.loop b) s H Q:=by
  intro j
  induction j with
  | zero=>intro k s H _ _ h;omega
  | succ j ih =>
   intro k s H hi hk hj l hr
   obtain ⟨m,e,l',s',H',h1,h2,h3⟩:=hstep k s H hi hk l hr
   cases e with
   | normal =>
    obtain ⟨hkn,h3⟩:k<n∧I (k+1) s' H':=h3
    obtain ⟨m2,e,l2,s2,H2,h4,h5,h6⟩:=ih (k+1) s' H' h3 (by omega) (by omega) l' h2
    refine ⟨m+m2+1,e,l2,s2,H2,?_,h5,h6⟩
    rw [codeA_loop,codeA_mono (Nat.le_add_right m m2) h1]
    exact codeA_mono (Nat.le_add_left m2 m) h4
   | exit i=>exact ⟨m+1,.exit i,l',s',H',by rw [codeA_loop,h1],h2,h3⟩
   | ret=>exact ⟨m+1,.ret,l',s',H',by rw [codeA_loop,h1],h2,h3⟩
 exact key (n+1) 0 _ _ h0 (by omega) (by omega)
end
def inR (f:AtV) (b:Bool) (v:AV):List AV:=f.id.cells++[.int .i64 f.type,.bool b,v]
theorem inR_len (f:AtV) (b:Bool) (v:AV):(inR f b v).length=36:=by simp [inR]
theorem inR_leaf (f:AtV) (b:Bool) (v:AV) (hv:v.leaf=true):∀z∈inR f b v,z.leaf=true:=by
 intro z hz
 unfold inR at hz
 rcases List.mem_append.1 hz with hz | hz
 ·exact List.all_eq_true.1 f.id.leafs z hz
 ·simp at hz
  rcases hz with rfl | rfl | rfl
  ·rfl
  ·rfl
  ·exact hv
theorem look_same {t:TypeId} {X Y:Heap} {m:Nat} {es:List (AV×AV)} (h1:X[m]?=some (.map es)) (h2:Y[m]?=some (.map es)) (k:AV) (c:Bool):lookupA Tryz.prog C X t (.map m) k c=lookupA Tryz.prog C Y t (.map m) k c:=by
 simp only [lookupA,entsA,h1,h2]
theorem rec_u35 (x:IdV) (a b c d:AV):(x.cells++[a,b,c]).take 35++[d]=x.cells++[a,b,d]:=by rw [rec_t35];simp
set_option maxRecDepth 100000 in
set_option maxHeartbeats 8000000 in
theorem any_Inodes (S:SettingU C σ) {s0:List StoredV} {k:SK} (hs:SetGood s0) (h8:s0.length≤8) (base:Nat) (H:Heap) :
 ∃L LI:List AtV,L.Perm (allA σ s0)∧LI.Perm (allA σ s0)∧∀K:AV→Heap→Prop,CallW Tryz.prog C base (.fn 11 []) [slAV k (s0.map StoredV.cells)] H K=K (slAV (nlK (inodesP ((liveI σ s0 LI).foldl addI []) L)) ((inodesP ((liveI σ s0 LI).foldl addI []) L).map InV.cells)) H:=by
 suffices h:∃v,(∃L LI:List AtV,L.Perm (allA σ s0)∧LI.Perm (allA σ s0)∧v=slAV (nlK (inodesP ((liveI σ s0 LI).foldl addI []) L)) ((inodesP ((liveI σ s0 LI).foldl addI []) L).map InV.cells))∧∀K:AV→Heap→Prop,CallW Tryz.prog C base (.fn 11 []) [slAV k (s0.map StoredV.cells)] H K=K v H by
  obtain ⟨v,⟨L,LI,h1,h2,rfl⟩,h3⟩:=h
  exact ⟨L,LI,h1,h2,h3⟩
 refine call_any (ret_any (S.pureU _ (by decide)) (fun H=>?_) base H)
 refine func_sem Tryz.func11 rfl (S.prim _ (by decide)) (by simp) ?_
 unfold Tryz.f11
 obtain ⟨v0,hv0⟩:∃v0,v0=slAV k (s0.map StoredV.cells):=⟨_,rfl⟩
 have hv0l:v0.leaf=true:=by rw [hv0];simp
 have hv0c:v0.cells=[v0]:=by rw [hv0];simp
 obtain ⟨V,v,L,LI,hL,hLI,hG,hvl,hvc,eg⟩:=gather_ex S (k:=k) hs h8 (base:=H.length) (H:=H) (Nat.le_refl _)
 rw [←hv0] at eg ⊢
 obtain ⟨al,hal⟩:∃al,al=(liveI σ s0 LI).foldl addI []:=⟨_,rfl⟩
 rw [←hal] at hG
 obtain ⟨la,hla⟩:∃la,la=slAV (nlK L) (L.map AtV.cells):=⟨_,rfl⟩
 have hlal:la.leaf=true:=by rw [hla];simp
 rw [←hla] at eg
 have hnl:AV.nilm.leaf=true:=rfl
 have hLl:=perm_len hs h8 hL
 have hFl:=filesM_len L
 obtain ⟨F,hF⟩:∃F,F=filesM L:=⟨_,rfl⟩
 rw [←hF] at hG hFl
 obtain ⟨m1,hm1⟩:∃m1,m1=H.length+1:=⟨_,rfl⟩
 obtain ⟨m2,hm2⟩:∃m2,m2=H.length+2:=⟨_,rfl⟩
 rw [←hm1,←hm2] at hG eg
 have hVl:=hG.low.2.2.2
 refine sem_cut (fun s X=>s 0=v0∧X=H) (sem_wp (by kernel_rfl) ?_) ?_
 ·simp [argS]
 rintro s X ⟨q0,hX⟩
 rw [hX];clear hX X
 have hbV:H.length≤V.length:=by omega
 obtain ⟨R,hR⟩:∃R,R=Blk.rows 7 0 [[v0,la,.map m1,v,.map m2,.nilm,.nilm]]:=⟨_,rfl⟩
 refine sem_cut (fun s X=>s 3=.ptr V.length 0 7 0 0∧X=V++[R]) (sem_wp (by kernel_rfl) ?_) ?_
 ·simp [q0,eg,storeA,fillA,hbV,hv0l,hlal,hvl,hnl,hR]
 clear q0
 rintro s X ⟨q3,hX⟩
 rw [hX];clear hX X
 refine sem_cut (fun s X=>s 3=.ptr V.length 0 7 0 0∧s 4=.nils∧X=V++[R]) (sem_wp (by kernel_rfl) ?_) ?_
 ·simp [q3]
 clear q3
 rintro s X ⟨q3,q4,hX⟩
 obtain ⟨V1,hV1⟩:∃V1,V1=V++[R]:=⟨_,rfl⟩
 rw [←hV1] at hX
 rw [hX];clear hX X
 have hG1:=hG.app [R]
 rw [←hV1] at hG1
 have hR1:V1[V.length]?=some R:=by rw [hV1];simp
 have hV1l:V1.length=V.length+1:=by rw [hV1];simp
 refine sem_cut (fun s X=>∃rows,V1.length≤X.length∧SlIs V1.length 36 X (s 4) rows∧InsIs V1.length X (F.map (inodeOf al L)) rows) ?_ ?_
 rotate_left
 ·rintro s X ⟨rows,hX,hS,hI⟩
  have hf3:=hI.freeze (k:=H.length) (d:=1) hS (by omega)
  refine sem_wp (by kernel_rfl) ?_
  simp
  refine ⟨_,hf3,L,hL,LI,hLI,?_⟩
  rw [←hal,hF];rfl
 have hvlen:∀Y,lenA Tryz.prog Y 83 v.denil=some (.int .i64 F.length):=by
  intro Y
  rcases hG.f with ⟨h0,rfl⟩ | ⟨_,b,g,rfl,_,_⟩
  ·have:F=[]:=by simpa using h0
   subst this;simp
  ·simp
 have hRr:blkRow V1 V.length 0 7 0=some [v0,la,.map m1,v,.map m2,.nilm,.nilm]:=by simp [blkRow,hR1,hR]
 refine sem_cut (fun s X=>s 3=.ptr V.length 0 7 0 0∧s 4=.nils∧s 13=v∧s 14=.int .i64 F.length∧s 15=.int .i64 0∧X=V1) (sem_wp (by kernel_rfl) ?_) ?_
 ·simp [q3,q4,hRr,hvl,hvc,hvlen]
 clear q3 q4
 rintro s X ⟨q3,q4,q13,q14,q15,hX⟩
 rw [hX];clear hX X
 refine sem_block (sem_loop F.length (fun i s X=>s 3=.ptr V.length 0 7 0 0∧s 13=v∧s 14=.int .i64 F.length∧s 15=.int .i64 i∧GaX (H.length+4) m1 m2 al (nameM al L) F v (2^20) X∧X[V.length]?=some R∧∃rows,V1.length≤X.length∧SlIs V1.length 36 X (s 4) rows∧InsIs V1.length X ((F.take i).map (inodeOf al L)) rows) ?_ ?_)
 ·exact ⟨q3,q13,q14,q15,hG1,hR1,[],Nat.le_refl _,.inl ⟨rfl,q4⟩,by simp,by simp⟩
 clear q3 q4 q13 q14 q15 hRr hG1 hR1
 rintro i s X ⟨q3,q13,q14,q15,hGX,hRX,rows,hX,hS,hI⟩ hi
 by_cases h:i<F.length
 rotate_left
 ·have h':i=F.length:=by omega
  subst h'
  rw [List.take_length] at hI
  refine sem_wp (by kernel_rfl) ?_
  simp [q3,q13,q14,q15]
  exact ⟨hX,rows,hS,hI⟩
 obtain ⟨f,hf⟩:∃f,f=F[i]:=⟨_,rfl⟩
 have hFm:i<(F.map AtV.cells).length:=by simpa using h
 obtain ⟨bf,gf,hvf,hbf,_⟩:=hGX.f.at hFm
 have hrf:blkRow X bf gf 172 i=some f.cells:=by simp [blkRow,hbf,hf,List.getElem?_eq_getElem h]
 have hRM:∀M,blkRow (X++M) V.length 0 7 0=some [v0,la,.map m1,v,.map m2,.nilm,.nilm]:=fun M=>blk_app (by simp [blkRow,hRX,hR]) M
 have hbX:H.length≤X.length:=by omega
 have hbX1:H.length≤X.length+1:=by omega
 have lk:=fun M=>look_ret S.toSetting (hGX.app M).h1 f.id
 obtain ⟨T,t1,t2,t3,_,_⟩:=hGX.o
 obtain ⟨ns,hns⟩:∃ns,ns=lookG (nameM al L) f.id:=⟨_,rfl⟩
 have hnl2:ns.length≤L.length:=by rw [hns,look_names];exact List.length_filter_le _ _
 obtain ⟨bb,hbb⟩:∃bb,bb=hasI al f.id:=⟨_,rfl⟩
 rw [←hbb] at lk
 have hffM:∀M,blkRow (X++Blk.rows 172 0 [f.cells]::M) X.length 0 172 0=some f.cells:=fun M=>by simp
 have ib:buildA Tryz.prog 47 [(0,.agg f.id.cells),(1,.int .i64 f.type),(2,.bool bb)]=some (.agg (inR f bb .nils)):=in_build f.id f.type bb
 rw [List.length_map] at hvf
 obtain ⟨u,hu⟩:∃u,u=s 4:=⟨_,rfl⟩
 have q4:=hu.symm
 rw [q4] at hS
 refine sem_cut (fun s X'=>s 3=.ptr V.length 0 7 0 0∧s 4=u∧s 13=v∧s 14=.int .i64 F.length∧s 15=.int .i64 i∧s 16=.bool true∧X'=X) (sem_wp (by kernel_rfl) ?_) ?_
 ·simp [q3,q4,q13,q14,q15,h]
 clear q3 q4 q13 q14 q15 hu
 rintro s X' ⟨q3,q4,q13,q14,q15,q16,hXX⟩
 rw [hXX];clear hXX X'
 refine sem_cut (fun s X'=>s 3=.ptr V.length 0 7 0 0∧s 4=u∧s 13=v∧s 14=.int .i64 F.length∧s 15=.int .i64 i∧X'=X) (sem_wp (by kernel_rfl) ?_) ?_
 ·simp [q3,q4,q13,q14,q15,q16]
 clear q3 q4 q13 q14 q15 q16
 rintro s X' ⟨q3,q4,q13,q14,q15,hXX⟩
 rw [hXX];clear hXX X'
 refine sem_cut (fun s X=>s 3=.ptr V.length 0 7 0 0∧s 13=v∧s 14=.int .i64 F.length∧s 15=.int .i64 i∧GaX (H.length+4) m1 m2 al (nameM al L) F v (2^20) X∧X[V.length]?=some R∧∃rows,V1.length≤X.length∧SlIs V1.length 36 X (s 4) rows∧InsIs V1.length X ((F.take (i+1)).map (inodeOf al L)) rows) ?_ ?_
 rotate_left
 ·rintro s X ⟨q3,q13,q14,q15,h1,h2,h3⟩
  refine sem_wp (by kernel_rfl) ?_
  simp [q3,q13,q14,q15,wrap_succ h (by omega)]
  obtain ⟨rows,h3,h4,h5⟩:=h3
  rw [List.map_take] at h5
  exact ⟨h,h1,h2,h3,rows,h4,h5⟩
 refine sem_block ?_
 refine sem_cut (fun s X'=>s 3=.ptr V.length 0 7 0 0∧s 4=u∧s 6=.ptr X.length 0 172 0 0∧s 13=v∧s 14=.int .i64 F.length∧s 15=.int .i64 i∧X'=X++[.rows 172 0 [f.cells]]) (sem_wp (by kernel_rfl) ?_) ?_
 ·simp [q3,q4,q13,q14,q15,hvf,h,hrf,storeA,fillA,hbX]
 clear q3 q4 q13 q14 q15
 rintro s X' ⟨q3,q4,q6,q13,q14,q15,hXX⟩
 rw [hXX];clear hXX X'
 refine sem_cut (fun s X'=>s 3=.ptr V.length 0 7 0 0∧s 4=u∧s 6=.ptr X.length 0 172 0 0∧s 7=.ptr (X.length+1) 0 36 0 0∧s 13=v∧s 14=.int .i64 F.length∧s 15=.int .i64 i∧X'=X++[.rows 172 0 [f.cells],.rows 36 0 [inR f bb .nils]]) (sem_draw (by kernel_rfl) ?_) ?_
 ·have e1:=inR_len f bb .nils
  have e2:(inR f bb .nils).take 36=inR f bb .nils:=List.take_of_length_le (by omega)
  have e3:(inR f bb .nils).drop 36=[]:=List.drop_of_length_le (by omega)
  have e4:=inR_leaf f bb .nils rfl
  have e5:(zeroId.cells++[AV.int .i64 0,.bool false,.nils]).drop 36=[]:=List.drop_of_length_le (by simp)
  simp [-bu47,q3,q4,q6,q13,q14,q15,hRM,hffM,lk,ib,hbX1,storeA,fillA,e1,e2,e3,e5]
  refine ⟨e4,chks_at (L:=[(1,0),(1,1),(1,2),(1,3),(1,4),(1,5),(1,6),(1,7),(1,8),(1,9),(1,10),(1,11),(3,0),(3,1),(3,2),(3,3),(3,4),(3,5),(3,6),(3,7),(3,8),(3,9),(3,10),(3,11),(5,0),(5,1),(5,2),(5,3),(5,4),(5,5),(5,6),(5,7),(5,8),(5,9),(5,10),(5,11),(7,0),(7,1),(7,2),(7,3),(7,4),(7,5),(7,6),(7,7),(7,8),(7,9),(7,10),(7,11),(8,0),(8,1),(8,2),(8,3),(8,4),(8,5),(8,6),(8,7),(8,8),(8,9),(8,10),(8,11)]) (by kernel_rfl) ?_⟩
  simp [-bu47,chkV,hAt,q3,q4,q6,q13,q14,q15,hRM,hffM,lk]
 clear q3 q4 q6 q13 q14 q15
 rintro s X' ⟨q3,q4,q6,q7,q13,q14,q15,hXX⟩
 obtain ⟨X1,hX1⟩:∃X1,X1=X++[.rows 172 0 [f.cells],.rows 36 0 [inR f bb .nils]]:=⟨_,rfl⟩
 rw [←hX1] at hXX
 rw [hXX];clear hXX X'
 have hX1l:X1.length=X.length+2:=by rw [hX1];simp
 have hXX1:∀(k:Nat) (blk:Blk),X[k]?=some blk→X1[k]?=some blk:=fun k blk hk=>by rw [hX1,List.getElem?_append_left (List.getElem?_eq_some_iff.1 hk).1];exact hk
 obtain ⟨w,hw,lw0⟩:=look_name S.toSetting t1 t3 f.id
 have lw:=(look_same (C:=C) (t:=91) (hXX1 _ _ t1) t1 (.agg f.id.cells) false).trans lw0
 rw [t2,←hns] at hw
 have hwlen:∀Y,lenA Tryz.prog Y 83 w.denil=some (.int .i64 ns.length):=by
  intro Y
  rcases hw with ⟨h0,rfl⟩ | ⟨_,b,g,rfl,_,_⟩
  ·have:ns=[]:=by simpa using h0
   subst this;simp
  ·simp
 have hwl:w.leaf=true:=by rcases hw with ⟨_,rfl⟩ | ⟨_,b,g,rfl,_⟩<;>rfl
 have hRX1:blkRow X1 V.length 0 7 0=some [v0,la,.map m1,v,.map m2,.nilm,.nilm]:=by rw [hX1];exact hRM _
 have hfX1:blkRow X1 X.length 0 172 0=some f.cells:=by rw [hX1];exact hffM _
 refine sem_wp (by kernel_rfl) ?_
 refine cut (fun s Y=>s 3=.ptr V.length 0 7 0 0∧s 4=u∧s 7=.ptr (X.length+1) 0 36 0 0∧s 13=v∧s 14=.int .i64 F.length∧s 15=.int .i64 i∧X1.length≤Y.length∧(∀(k:Nat) (blk:Blk),X[k]?=some blk→Y[k]?=some blk)∧∃z,Y[X.length+1]?=some (.rows 36 0 [inR f bb z])∧SlIs X1.length 67 Y z ((ns.map nameOf).map NmV.cells)) ?_ ?_
 ·simp [q3,q4,q6,q7,q13,q14,q15,hRX1,hfX1,lw,hwlen]
  refine loop_count ns.length (fun j s Y=>s 3=.ptr V.length 0 7 0 0∧s 4=u∧s 7=.ptr (X.length+1) 0 36 0 0∧s 13=v∧s 14=.int .i64 F.length∧s 15=.int .i64 i∧s 33=w∧s 34=.int .i64 ns.length∧s 35=.int .i64 j∧X1.length≤Y.length∧(∀(k:Nat) (blk:Blk),X[k]?=some blk→Y[k]?=some blk)∧∃z,Y[X.length+1]?=some (.rows 36 0 [inR f bb z])∧SlIs X1.length 67 Y z (((ns.take j).map nameOf).map NmV.cells)) ?_ ?_
  ·exact ⟨q3,q4,q7,q13,q14,q15,rfl,rfl,rfl,Nat.le_refl _,hXX1,.nils,by rw [hX1];simp,.inl ⟨by simp,rfl⟩⟩
  clear q3 q4 q6 q7 q13 q14 q15
  rintro j s Y ⟨q3,q4,q7,q13,q14,q15,q33,q34,q35,hY,hXY,z,hz,hSz⟩ hj
  by_cases hjn:j<ns.length
  rotate_left
  ·have h':j=ns.length:=by omega
   subst h'
   rw [List.take_length] at hSz
   simp [q3,q4,q7,q13,q14,q15,q33,q34,q35]
   exact ⟨hY,hXY,z,hz,by simpa using hSz⟩
  obtain ⟨a,ha⟩:∃a,a=ns[j]:=⟨_,rfl⟩
  have hnm:j<(ns.map AtV.cells).length:=by simpa using hjn
  obtain ⟨bw,gw,hvw,hbw,hbw2⟩:=hw.at hnm
  rw [List.length_map] at hvw
  have hbwX:=(List.getElem?_eq_some_iff.1 hbw).1
  have hbwY:=hXY _ _ hbw
  have hYl:X.length+2≤Y.length:=by omega
  have hra:blkRow Y bw gw 172 j=some a.cells:=by simp [blkRow,hbwY,ha,List.getElem?_eq_getElem hjn]
  have haM:∀M,blkRow (Y++Blk.rows 172 0 [a.cells]::M) Y.length 0 172 0=some a.cells:=fun M=>by simp
  have hzM:∀M,blkRow (Y++M) (X.length+1) 0 36 0=some (inR f bb z):=fun M=>blk_app (by simp [blkRow,hz]) M
  have hzd:(inR f bb z).drop 35=[z]:=rec_d35 f.id _ _ _
  have hzl:z.leaf=true∧z.cells=[z]:=by rcases hSz with ⟨_,rfl⟩ | ⟨_,b,g,rfl,_⟩<;>exact ⟨rfl,rfl⟩
  have nb:=nm_build a
  obtain ⟨nc,hnc⟩:∃nc,nc=(nameOf a).cells:=⟨_,rfl⟩
  rw [←hnc] at nb
  have hncl:nc.length=67:=by rw [hnc];simp
  have hntk:(ns.take j).length≤ns.length:=by simp;omega
  obtain ⟨z',Y',ea,hS',hl',⟨b',g',l',hz'⟩,hk'⟩:=(hSz.app [.rows 172 0 [a.cells]]).append (P:=Tryz.prog) (base:=H.length) (ts:=#[45,45]) (e:=51) (xd:=.slice 51) (x:=.lst [nc] true) (ys:=[nc])
   (by simp) (by simp) sz51 by51 (by simp) (by decide) (by omega) (by simp;omega) rfl (by simp [hncl]) (by simp) (by simp;omega)
  have hznot:∀b g l,z=.sl b g 67 0 l→X1.length≤b∧b<Y.length:=by
   intro b g l h1
   rcases hSz with ⟨_,h2⟩ | ⟨_,b2,g2,h2,h3,h4⟩
   ·rw [h1] at h2;cases h2
   ·rw [h1] at h2;cases h2;exact ⟨h4,(List.getElem?_eq_some_iff.1 h3).1⟩
  have hr':Y'[X.length+1]?=some (.rows 36 0 [inR f bb z]):=(hk' _ _ (by rw [List.getElem?_append_left (by omega)];exact hz) fun b g l h1=>by have:=hznot b g l h1;omega).1
  have hrl:X.length+1<Y'.length:=(List.getElem?_eq_some_iff.1 hr').1
  have hst:∀w:AV,(inR f bb z).take 35++[w]=inR f bb w:=fun w=>rec_u35 f.id _ _ _ _
  have hzl':z'.leaf=true∧z'.cells=[z']:=by rw [hz'];exact ⟨rfl,rfl⟩
  have hil:=inR_len f bb z
  have hid:(inR f bb z).drop 36=[]:=List.drop_of_length_le (by omega)
  have hbb1:H.length≤X.length+1:=by omega
  have hz35:∀h,(inR f bb z)[35]'h=z:=fun h=>by
   have h1:(inR f bb z)[35]?=some z:=by rw [←List.head?_drop,hzd];rfl
   rw [List.getElem?_eq_getElem h] at h1;exact Option.some.inj h1
  have hnca:∀x∈nc,x.leaf=true:=by rw [hnc];exact List.all_eq_true.1 (nameOf a).leafs
  have hbY:H.length≤Y.length:=by omega
  simp [-bu51,q3,q4,q7,q13,q14,q15,q33,q34,q35,hjn,hvw,hra,storeA,fillA,hbY,haM,hzM,hzd,hzl.1,hzl.2,nb,hz35,buildSliceA,fillRows,hncl,ea,hr',hbb1,hil,hid,hzl'.1,hzl'.2,hst,wrap_succ hjn (by omega)]
  have htk:((ns.take (j+1)).map nameOf).map NmV.cells=((ns.take j).map nameOf).map NmV.cells++[nc]:=by rw [List.take_add_one,List.getElem?_eq_getElem hjn,List.map_append,List.map_append,hnc,ha];rfl
  have hfin:∀(k:Nat) (blk:Blk),X[k]?=some blk→(Y'.set (X.length+1) (.rows 36 0 [inR f bb z']))[k]?=some blk:=fun k blk hk=>by
   have hkl:=(List.getElem?_eq_some_iff.1 hk).1
   rw [List.getElem?_set_ne (by omega)]
   exact (hk' _ _ (by have:=hXY k blk hk;rw [List.getElem?_append_left (by omega)];exact this) fun b g l h1=>by have:=hznot b g l h1;omega).1
  simp at hl'
  refine ⟨hnca,by omega,hfin,z',by rw [List.getElem?_set_self hrl],?_⟩
  have hS2:SlIs X1.length 67 (Y'.set (X.length+1) (.rows 36 0 [inR f bb z'])) z' (((ns.take (j+1)).map nameOf).map NmV.cells):=by
   rw [htk]
   exact hS'.keep fun b g rs hb h=>by rw [List.getElem?_set_ne (by omega)];exact h
  simpa using hS2
 clear q3 q4 q6 q7 q13 q14 q15
 rintro s Y ⟨q3,q4,q7,q13,q14,q15,hY,hXY,z,hz,hSz⟩
 have hzr:blkRow Y (X.length+1) 0 36 0=some (inR f bb z):=by simp [blkRow,hz]
 have hil:=inR_len f bb z
 have hit:(inR f bb z).take 36=inR f bb z:=List.take_of_length_le (by omega)
 have hSY:=hS.keep (X':=Y) fun b g rs _ hb=>hXY _ _ hb
 have hIY:=hI.keep (X':=Y) fun b g rs _ hb=>hXY _ _ hb
 have hrow:rows.length≤F.length:=by rw [←hI.1];simp;omega
 obtain ⟨u',Y',ea,hS',hl',⟨b',g',l',hu'⟩,hk'⟩:=hSY.append (P:=Tryz.prog) (base:=H.length) (ts:=#[43,43]) (e:=47) (xd:=.slice 47) (x:=.lst [inR f bb z] true) (ys:=[inR f bb z])
  (by simp) (by simp) sz47 by47 (by simp) (by decide) (by omega) (by omega) rfl (by simp [hil]) (by simp) (by simp;omega)
 have hua:∀b g l,u=.sl b g 36 0 l→∃g2 rs,Y[b]?=some (.rows 36 g2 rs):=by
  intro b g l h1
  rcases hSY with ⟨_,h2⟩ | ⟨_,b2,g2,h2,h3,h4⟩
  ·rw [h1] at h2;cases h2
  ·rw [h1] at h2;cases h2;exact ⟨_,_,h3⟩
 have hkk:∀b blk,Y[b]?=some blk→(∀g rs,blk≠Blk.rows 36 g rs)→Y'[b]?=some blk:=fun b blk hb hne=>(hk' b blk hb (by
  intro b2 g l h1 h2
  obtain ⟨g2,rs,h3⟩:=hua b2 g l h1
  rw [←h2,hb] at h3
  exact hne _ _ (Option.some.inj h3))).1
 have hzl:z.leaf=true:=by rcases hSz with ⟨_,rfl⟩ | ⟨_,b,g,rfl,_⟩<;>rfl
 have hila:=inR_leaf f bb z hzl
 simp [q3,q4,q7,q13,q14,q15,hzr,hil,hit,buildSliceA,fillRows,ea]
 refine ⟨hila,hGX.keep2 (fun b blk hb ho=>hkk b blk (hXY _ _ hb) ?_) (by omega),hkk _ _ (hXY _ _ hRX) (by rw [hR];intro g rs h;cases h),by omega,_,hS',?_⟩
 ·rcases ho with ⟨es,rfl⟩ | ⟨g,rs,rfl⟩<;>intro g2 rs2 h2<;>cases h2
 have hlast:(F.map (inodeOf al L)).take (i+1)=(F.take i).map (inodeOf al L)++[inodeOf al L f]:=by
  rw [←List.map_take,List.take_add_one,List.getElem?_eq_getElem h,List.map_append,hf];rfl
 rw [hlast]
 have h67:∀(b g:Nat) (rs:List (List AV)),Y[b]?=some (.rows 67 g rs)→Y'[b]?=some (.rows 67 g rs):=fun b g rs hb=>hkk _ _ hb (by intro g2 rs2 h2;cases h2)
 refine (hIY.keep fun b g rs _ hb=>h67 _ _ _ hb).snoc ⟨z,?_,?_,?_⟩
 ·rw [hbb];rfl
 ·rfl
 ·have hzz:SlIs V1.length 67 Y' z ((ns.map nameOf).map NmV.cells):=by
   rcases hSz with h1 | ⟨h0,b,g,h1,h2,h3⟩
   ·exact .inl h1
   ·exact .inr ⟨h0,b,g,h1,h67 _ _ _ h2,by omega⟩
  rw [hns] at hzz
  exact hzz
end Go.Proofs.Ev
