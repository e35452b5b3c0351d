/- Part 25 of the proof that quiltlaw38.BlameTouching returns true: no statement of its own. -/
import Derived.Test.YtbpaeodbnleoaaaGreatDoorT24
set_option linter.all false
namespace Go.Proofs.Ev
open Go.Proofs
variable {σ:aZ}
theorem De:∀l r:List aH,∃l',iH (l++r)=l'++iH r∧l'.Sublist l
 | [],r=>⟨[],rfl,.slnil⟩
 | x::l,r=>by
  obtain ⟨l',h1,h2⟩:=De l r
  show ∃l',sM x (iH (l++r))=_∧_
  rw [h1]
  unfold sM
  split
  ·exact ⟨l',rfl,h2.cons x⟩
  ·exact ⟨x::l',rfl,h2.cons₂ x⟩
theorem zt {l r:List aH} {x:aH} (hn:((l++x::r).map fun x=>x.id).Nodup):x∉l∧x∉r∧∀y∈l,y∉r:=by
 rw [List.map_append,List.map_cons,List.nodup_append,List.nodup_cons] at hn
 obtain ⟨_,⟨h2,_⟩,h4⟩:=hn
 refine ⟨fun h=>h4 x.id (List.mem_map.2 ⟨x,h,rfl⟩) x.id (by simp) rfl,fun h=>h2 (List.mem_map.2 ⟨x,h,rfl⟩),fun y hy h=>h4 y.id (List.mem_map.2 ⟨y,hy,rfl⟩) y.id (by simp;exact .inr ⟨y,h,rfl⟩) rfl⟩
theorem rZ {O l r:List aH} {x y:aH} (hO:O=l++x::r) (hn:(O.map fun x=>x.id).Nodup) (he:mQ O) (hy:y∈O) (hk:y.kind=7) (ho:x.id∈y.over):y∈r:=by
 have hx:x∈O:=by rw [hO];simp
 rw [hO] at hn
 obtain ⟨n1,n2,n3⟩:=zt hn
 rw [hO] at hy
 rcases List.mem_append.1 hy with h | h
 ·obtain ⟨l3,r3,rfl⟩:=List.append_of_mem h
  have h1:=he l3 y (r3++x::r) (by rw [hO];simp) hk x.id ho x hx rfl
  exact absurd (by simp [h1]) n1
 ·rcases List.mem_cons.1 h with h | h
  ·subst h
   exact absurd (he l y r hO hk y.id ho y hx rfl) n1
  ·exact h
theorem Df {O:List aH} (hn:(O.map fun x=>x.id).Nodup) (he:mQ O) {x:aH} (hx:x∈O):x∈iH O↔¬∃y∈iH O,y.kind=7∧x.id∈y.over:=by
 obtain ⟨l,r,hO⟩:=List.append_of_mem hx
 obtain ⟨l',h1,h2⟩:=De l (x::r)
 have h3:iH (x::r)=sM x (iH r):=rfl
 rw [←hO,h3] at h1
 have hn':=hn
 rw [hO] at hn'
 obtain ⟨n1,n2,n3⟩:=zt hn'
 have hret:xR (iH r) x.id=true↔∃y∈iH r,y.kind=7∧x.id∈y.over:=by
  unfold xR
  rw [List.any_eq_true]
  constructor
  ·rintro ⟨y,hy,h⟩
   rw [Bool.and_eq_true,decide_eq_true_eq] at h
   exact ⟨y,hy,h.1,qk.1 h.2⟩
  ·rintro ⟨y,hy,h,h'⟩
   exact ⟨y,hy,by rw [Bool.and_eq_true,decide_eq_true_eq];exact ⟨h,qk.2 h'⟩⟩
 constructor
 ·rintro hxe ⟨y,hy,hk,ho⟩
  have hyr:=rZ hO hn he ((lB O).subset hy) hk ho
  have hye:y∈iH r:=by
   rw [h1] at hy
   rcases List.mem_append.1 hy with h | h
   ·exact absurd hyr (n3 y (h2.subset h))
   ·unfold sM at h
    split at h
    ·exact h
    ·rcases List.mem_cons.1 h with h | h
     ·rw [h] at hyr;exact absurd hyr n2
     ·exact h
  have hr:=hret.2 ⟨y,hye,hk,ho⟩
  rw [h1,sM,if_pos hr] at hxe
  rcases List.mem_append.1 hxe with h | h
  ·exact n1 (h2.subset h)
  ·exact n2 ((lB r).subset h)
 ·intro hno
  have hr:¬xR (iH r) x.id=true:=fun h=>by
   obtain ⟨y,hy,h4⟩:=hret.1 h
   refine hno ⟨y,?_,h4⟩
   rw [h1]
   unfold sM
   split<;>simp [hy]
  rw [h1,sM,if_neg hr]
  simp
theorem yZ {O O':List aH} (hn:(O.map fun x=>x.id).Nodup) (hn':(O'.map fun x=>x.id).Nodup) (he:mQ O) (he':mQ O') {Q:aH→Prop} (hQ:∀x∈O,Q x→∀y∈O,y.kind=7→x.id∈y.over→Q y) (hin:∀x∈O',x∈O) (hq:∀x∈O,Q x→x∈O') :
 ∀(n:Nat) (l r:List aH) (x:aH),O=l++x::r→r.length<n→Q x→(x∈iH O↔x∈iH O')
 | 0,_,_,_,_,h,_=>by omega
 | n+1,l,r,x,hO,hl,hx=>by
  have ih:=yZ hn hn' he he' hQ hin hq n
  have hxO:x∈O:=by rw [hO];simp
  rw [Df hn he hxO,Df hn' he' (hq x hxO hx)]
  have key:∀y∈O,y.kind=7→x.id∈y.over→(y∈iH O↔y∈iH O'):=fun y hy hk ho=>by
   have hyr:=rZ hO hn he hy hk ho
   obtain ⟨r3,r4,hr⟩:=List.append_of_mem hyr
   refine ih (l++x::r3) r4 y (by rw [hO,hr];simp) (by rw [hr] at hl;simp at hl;omega) (hQ x hxO hx y hy hk ho)
  refine not_congr ⟨?_,?_⟩
  ·rintro ⟨y,hy,hk,ho⟩
   exact ⟨y,(key y ((lB O).subset hy) hk ho).1 hy,hk,ho⟩
  ·rintro ⟨y,hy,hk,ho⟩
   exact ⟨y,(key y (hin y ((lB O').subset hy)) hk ho).2 hy,hk,ho⟩
theorem Ha {O O':List aH} (hn:(O.map fun x=>x.id).Nodup) (hn':(O'.map fun x=>x.id).Nodup) (he:mQ O) (he':mQ O') {Q:aH→Prop} (hQ:∀x∈O,Q x→∀y∈O,y.kind=7→x.id∈y.over→Q y) (hin:∀x∈O',x∈O) (hq:∀x∈O,Q x→x∈O') {d:aI} (hd:∀y∈O,d∈y.over→Q y) :
 (JL (iH O) d).isEmpty=(JL (iH O') d).isEmpty:=by
 have key:∀y∈O,d∈y.over→(y∈iH O↔y∈iH O'):=fun y hy ho=>by
  obtain ⟨l,r,hO⟩:=List.append_of_mem hy
  exact yZ hn hn' he he' hQ hin hq _ l r y hO (Nat.lt_succ_self _) (hd y hy ho)
 have hk:∀E:List aH,(JL E d).isEmpty=true↔∀y∈E,d∉y.over:=fun E=>by
  unfold JL
  rw [List.isEmpty_iff,List.map_eq_nil_iff,List.filter_eq_nil_iff]
  exact ⟨fun h y hy ho=>h y hy (qk.2 ho),fun h y hy ho=>h y hy (qk.1 ho)⟩
 rw [Bool.eq_iff_iff,hk,hk]
 constructor
 ·exact fun h y hy ho=>h y ((key y (hin y ((lB O').subset hy)) ho).2 hy) ho
 ·exact fun h y hy ho=>h y ((key y ((lB O).subset hy) ho).1 hy) ho
theorem rQ:∀(l:List aW) (own:List aH),∃r,bk l own=own++r
 | [],own=>⟨[],by simp [bk]⟩
 | c::l,own=>by
  obtain ⟨r,hr⟩:=rQ l (own++cg c own.length)
  exact ⟨cg c own.length++r,by rw [bk,hr,List.append_assoc]⟩
theorem pW:∀(l:List aW) (own:List aH) (i:Nat),∃r,bk l own=bk (l.take i) own++r
 | l,own,0=>by simpa [bk] using rQ l own
 | [],own,i+1=>⟨[],by simp [bk]⟩
 | c::l,own,i+1=>by
  obtain ⟨r,hr⟩:=pW l (own++cg c own.length) i
  exact ⟨r,by rw [List.take_succ_cons,bk,bk,hr]⟩
theorem lZ:∀(l:List aW) (own:List aH) (y:aH),y∈bk l own→y∈own∨∃i c,l[i]?=some c∧y∈cg c (bk (l.take i) own).length
 | [],own,y,h=>.inl h
 | c::l,own,y,h=>by
  rcases lZ l _ y h with h | ⟨i,c',h1,h2⟩
  ·rcases List.mem_append.1 h with h | h
   ·exact .inl h
   ·exact .inr ⟨0,c,rfl,by simpa [bk] using h⟩
  ·exact .inr ⟨i+1,c',by simpa using h1,by simpa [bk] using h2⟩
theorem EL {c:aW} {n:Nat} {y:aH} (hy:y∈cg c n) (h7:y.kind≠7) {z:aI} (hz:z∈y.over):y.file=c.file∧z∈c.over∧(c.kind=2∨c.kind=3∨c.kind=4∨c.kind=6):=by
 unfold cg at hy
 have zo:b9.over=[]:=rfl
 repeat' split at hy
 all_goals first
  | (simp only [List.mem_singleton] at hy;subst hy;first | exact ⟨rfl,hz,by simp [*]⟩ | (exact absurd rfl h7) | (simp [zo] at hz))
  | skip
 rcases List.mem_append.1 hy with h | h
 all_goals
  obtain ⟨i,_,rfl⟩:=List.mem_map.1 h
  simp [fA,fw,zo] at hz
theorem Hi {c:aW} {n:Nat} {y:aH} (hy:y∈cg c n) (h1:y.kind=1):y.file=y.id:=by
 unfold cg at hy
 repeat' split at hy
 all_goals first
  | (simp only [List.mem_singleton] at hy;subst hy;first | rfl | (simp at h1))
  | skip
 rcases List.mem_append.1 hy with h | h
 all_goals
  obtain ⟨i,_,rfl⟩:=List.mem_map.1 h
  simp [fA,fw] at h1
theorem sp {c:aW} {own:List aH}:∀{l:List aI},eX c own l=0→∀z∈l,rv z own.length (dI c.kind c.file (kn own z))=0
 | [],_,z,hz=>by simp at hz
 | x::l,h,z,hz=>by
  rw [eX] at h
  split at h
  ·rename_i h1
   rcases List.mem_cons.1 hz with rfl | hz
   ·exact h1
   ·exact sp h z hz
  ·rename_i h1;exact absurd h h1
theorem vV {k:Int} {f:aI} {x:aH} (hk:k=2∨k=3∨k=4∨k=6) (h:dI k f x=true):x.file=f∧x.kind≠7:=by
 unfold dI sx at h
 rw [if_neg (by omega)] at h
 simp only [Bool.or_eq_true,beq_iff_eq,Bool.and_eq_true] at h
 rcases h with h | ⟨h1,h2⟩
 ·omega
 ·exact ⟨ct h2,by omega⟩
theorem HA {p:aC} (hp:p.Good) {y0:aH} (hy:y0∈aR p) (h7:y0.kind≠7) {z:aI} (hz:z∈y0.over) :
 ∃c∈p.changes,y0.file=c.file∧z∈c.over∧(c.kind=2∨c.kind=3∨c.kind=4∨c.kind=6)∧(bC z.d=true→0≤z.n∧∃w,(aR p)[z.n.toNat]?=some w∧w.file=c.file∧w.kind≠7):=by
 rw [hp.atoms] at hy ⊢
 rcases lZ p.changes [] y0 hy with h | ⟨i,c,h1,h2⟩
 ·simp at h
 obtain ⟨f1,f2,f3⟩:=EL h2 h7 hz
 refine ⟨c,List.mem_of_getElem? h1,f1,f2,f3,fun h0=>?_⟩
 have hr:=(hp.change h1).2
 have ho:eX c (bk (p.changes.take i) []) c.over=0:=by
  unfold li at hr
  repeat' split at hr
  all_goals first | omega | (rename_i h;exact absurd hr h) | skip
  all_goals simp_all
 have h3:=sp ho z f2
 obtain ⟨k1,k2,_⟩:=sW h3
 obtain ⟨k3,k4⟩:=k2 h0
 obtain ⟨r,hr2⟩:=pW p.changes [] i
 obtain ⟨own,hown⟩:∃own,own=bk (p.changes.take i) []:=⟨_,rfl⟩
 rw [←hown] at k3 k4 hr2
 have hlt:z.n.toNat<own.length:=by omega
 have hg:kn own z=own[z.n.toNat]:=by
  unfold kn
  rw [if_pos (by simp [h0,k1,k3]),List.getD_eq_getElem?_getD,List.getElem?_eq_getElem hlt];rfl
 rw [hg] at k4
 obtain ⟨g1,g2⟩:=vV f3 k4
 exact ⟨k1,_,by rw [hr2,List.getElem?_append_left hlt,List.getElem?_eq_getElem hlt],g1,g2⟩
theorem pV (d:ar) (x:aH) (h:x.kind≠7):(pH σ d x).file=ba x.file d:=by
 unfold pH qS sF sE DV
 simp only
 rw [if_pos h]
 simp only
 split<;>split<;>rfl
theorem Gg (d:ar) (x:aH) (h:x.kind≠7):(yo d x).file=ba x.file d:=by
 unfold yo qS sF sE yD
 simp only
 rw [if_pos h]
 simp only
 split<;>split<;>rfl
theorem yE (d:ar) (x:aH):(pH σ d x).kind=x.kind:=by
 unfold pH qS sF sE DV
 simp only
 split<;>split<;>split<;>rfl
theorem Gh (d:ar) (x:aH):(yo d x).kind=x.kind:=by
 unfold yo qS sF sE yD
 simp only
 split<;>split<;>split<;>rfl
theorem yP {s:List ah}:∀{l:List ah},oX s l=0→∀x∈l,mG s x.id x.patch.changes=0
 | [],_,x,hx=>by simp at hx
 | y::l,h,x,hx=>by
  rw [oX] at h
  split at h
  ·rename_i h1;exact absurd h h1
  ·rename_i h1
   rcases List.mem_cons.1 hx with rfl | hx
   ·omega
   ·exact yP h x hx
theorem Aa {s:List ah} {d:ar}:∀{l:List aW},mG s d l=0→∀c∈l,dz s c d=0
 | [],_,x,hx=>by simp at hx
 | y::l,h,x,hx=>by
  rw [mG] at h
  split at h
  ·rename_i h1;exact absurd h h1
  ·rename_i h1
   rcases List.mem_cons.1 hx with rfl | hx
   ·omega
   ·exact Aa h x hx
theorem zV {s:List ah} {c:aW} {d:ar}:∀{l:List aI},nz s c d l=0→∀z∈l,bC z.d=false→lu s z=true∧dI c.kind (ba c.file d) (jv s z)=true
 | [],_,x,hx,_=>by simp at hx
 | y::l,h,x,hx,h0=>by
  rw [nz] at h
  rcases List.mem_cons.1 hx with rfl | hx
  ·rw [h0,if_neg (by decide)] at h
   cases ha:lu s x with
   | false=>rw [ha] at h;simp at h
   | true =>
    cases hf:dI c.kind (ba c.file d) (jv s x) with
    | true=>exact ⟨rfl,rfl⟩
    | false=>rw [ha,hf] at h;simp at h
  ·refine zV (l:=l) ?_ x hx h0
   repeat' split at h
   all_goals first | exact h | omega
theorem yK {s:List ah} {c:aW} {d:ar} (h:dz s c d=0):nz s c d c.over=0:=by
 unfold dz at h
 repeat' split at h
 all_goals first | exact h | (rename_i h1;exact absurd h h1) | omega
theorem E6 (hi:gZ σ) {s:List ah} (P:jt s) (hc:oX s s=0) {x:ah} (hx:x∈s) {y:aH} (hy:y∈bj σ x.patch) (h7:y.kind≠7) {x2:ah} (hx2:x2∈s) {z:aH} (hz:z∈bj σ x2.patch) (ho:z.id∈y.over):z.file=y.file:=by
 have hp:=P.good.1 x hx
 have hp2:=P.good.1 x2 hx2
 obtain ⟨j,hj⟩:=List.getElem?_of_mem hz
 obtain ⟨z1,z2⟩:=gh hp2 hj
 unfold bj at hy hj
 obtain ⟨y0,hy0,rfl⟩:=List.mem_map.1 hy
 rw [yE] at h7
 have ho':z.id∈σ.i (y0.over.map fun z=>ba z x.patch.dig):=ho
 obtain ⟨z0,hz0,hzo⟩:=List.mem_map.1 (((hi _).1.mem_iff).1 ho')
 obtain ⟨c,hcm,f1,f2,f3,f4⟩:=HA hp hy0 h7 hz0
 have hdx:x.patch.dig=x.id:=qc (P.named x hx)
 rw [pV _ _ h7,f1]
 rw [List.getElem?_map] at hj
 cases hw:(aR x2.patch)[j]? with
 | none=>rw [hw] at hj;cases hj
 | some w =>
 rw [hw] at hj
 have hzw:z=pH σ x2.patch.dig w:=(Option.some.inj hj).symm
 cases h0:bC z0.d with
 | true =>
  obtain ⟨k1,w',k2,k3,k4⟩:=f4 h0
  have hwv:ba z0 x.patch.dig=⟨x.patch.dig.d,z0.n,x.patch.dig.h,x.patch.dig.b⟩:=by unfold ba;rw [if_pos (by simp [h0,k1])]
  rw [hwv] at hzo
  have h1:z.id.d=x.patch.dig.d:=by rw [←hzo]
  have h2:z.id.n=z0.n:=by rw [←hzo]
  have hxx:x2=x:=uniq P.good.2.1 hx2 hx (by rw [←P.named x2 hx2,←P.named x hx,←z1,h1])
  subst hxx
  have hjn:z0.n.toNat=j:=by omega
  rw [hjn,hw] at k2
  cases k2
  rw [hzw,pV _ _ k4,k3]
 | false =>
  have hwv:ba z0 x.patch.dig=z0:=by unfold ba;rw [if_neg (by simp [h0])]
  rw [hwv] at hzo
  have hov:=yK (Aa (yP hc x hx) c hcm)
  obtain ⟨b1,b2⟩:=zV hov z0 f2 h0
  obtain ⟨g1,g2⟩:=vV f3 b2
  have hgp:d3 s z0.d=x2.patch:=by
   rw [hzo,z1,P.named x2 hx2];exact (qh P.good hx2).2
  have hzn:z0.n=(j:Int):=by rw [hzo,z2]
  have hjl:j<(aR x2.patch).length:=(List.getElem?_eq_some_iff.1 hw).1
  have hdig:(⟨pM x2.patch,lX x2.patch,lW x2.patch⟩:ar)=x2.patch.dig:=qc (by show pM x2.patch=x2.patch.dig.d;unfold pM;rw [if_pos hp2.ok];rfl)
  have hq:jv s z0=yo x2.patch.dig w:=by
   unfold jv qT
   rw [hgp,if_pos hp2.ok,hdig,if_neg (by rw [List.length_map];omega),hzn,Int.toNat_natCast,List.getD_eq_getElem?_getD,List.getElem?_map,hw];rfl
  rw [hq] at g1 g2
  rw [Gh] at g2
  rw [Gg _ _ g2] at g1
  rw [hzw,pV _ _ g2,g1,hdx]
theorem En {p:aC} (hp:p.Good) {y:aH} (hy:y∈bj σ p) (h1:y.kind=1):y.file=y.id:=by
 unfold bj at hy
 obtain ⟨y0,hy0,rfl⟩:=List.mem_map.1 hy
 rw [yE] at h1
 rw [hp.atoms] at hy0
 rcases lZ p.changes [] y0 hy0 with h | ⟨i,c,_,h2⟩
 ·simp at h
 ·have h3:=Hi h2 h1
  rw [pV _ _ (by omega),h3]
  unfold pH qS sF sE DV
  simp only
  split<;>split<;>split<;>rfl
end Go.Proofs.Ev
namespace Go.Proofs.Ev
open Go.Proofs
variable {σ:aZ}
def AS (σ:aZ) (s:List ah):Prop:=∀x∈s,bV (cr σ s s.length []) x.id.d=true
theorem zT {s:List ah}:∀(n:Nat) (out:List ar),(∀x∈s,sO σ (cr σ s n out) x=false)∨(cr σ s n out).length=out.length+n
 | 0,out=>.inr rfl
 | n+1,out=>by
  rw [cr]
  cases hf:s.find? (sO σ out) with
  | none =>
   rw [List.find?_eq_none] at hf
   exact .inl fun x hx=>by simpa using hf x hx
  | some x =>
   rcases zT (s:=s) n (out++[x.id]) with h | h
   ·exact .inl h
   ·exact .inr (by simp only;rw [h];simp;omega)
theorem xH {s:List ah}:∀(n:Nat) (out:List ar) (i:Nat) (d:ar),out.length≤i→(cr σ s n out)[i]?=some d→∃x∈s,x.id=d∧sO σ ((cr σ s n out).take i) x=true
 | 0,out,i,d,hi,h=>by
  rw [cr,List.getElem?_eq_none hi] at h;cases h
 | n+1,out,i,d,hi,h=>by
  rw [cr] at h ⊢
  cases hf:s.find? (sO σ out) with
  | none=>rw [hf] at h;simp only at h;rw [List.getElem?_eq_none hi] at h;cases h
  | some x =>
   rw [hf] at h
   simp only at h ⊢
   by_cases he:i=out.length
   ·obtain ⟨r,hr⟩:=uv (σ:=σ) s n (out++[x.id])
    rw [hr] at h ⊢
    rw [he,List.append_assoc] at h ⊢
    rw [List.getElem?_append_right (Nat.le_refl _)] at h
    simp at h
    rw [List.take_left]
    exact ⟨x,List.mem_of_find?_eq_some hf,h,List.find?_some hf⟩
   ·exact xH n (out++[x.id]) i d (by simp;omega) h
theorem jZ {s:List ah} {c:List ar} {x:ah}:x∈cG s c↔x∈s∧bV c x.id.d=true:=by unfold cG;rw [List.mem_filter]
theorem GF {s:List ah} (hc:AS σ s) {c:List ar} (hcl:∀x∈s,bV c x.id.d=true→∀e∈co σ x.patch,bV c e.d=true):AS σ (cG s c):=by
 obtain ⟨S,hS⟩:∃S,S=cG s c:=⟨_,rfl⟩
 rw [←hS]
 have hm:∀x∈S,x.id.d∈dh (S.map fun x=>x.id):=fun x hx=>by simp only [dh,List.map_map,List.mem_map];exact ⟨x,hx,rfl⟩
 have hD:(dh (S.map fun x=>x.id)).length=S.length:=by simp [dh]
 intro x hx
 rcases zT (σ:=σ) (s:=S) S.length [] with h | h
 ·obtain ⟨R,hR⟩:∃R,R=cr σ S S.length []:=⟨_,rfl⟩
  rw [←hR] at h ⊢
  obtain ⟨L,hL⟩:∃L,L=cr σ s s.length []:=⟨_,rfl⟩
  have key:∀n,n≤L.length→∀d∈L.take n,bV c d.d=true→bV R d.d=true:=by
   intro n
   induction n with
   | zero=>intro _ d hd;simp at hd
   | succ n ih =>
    intro hn d hd hdc
    have ih:=ih (by omega)
    have hg:L[n]?=some L[n]:=List.getElem?_eq_getElem (by omega)
    rw [List.take_add_one,hg] at hd
    rcases List.mem_append.1 hd with hd | hd
    ·exact ih d hd hdc
    ·have hdn:d=L[n]:=by simpa using hd
     rw [←hdn,hL] at hg
     obtain ⟨y,hy,hyd,hok⟩:=xH (σ:=σ) s.length [] n d (by simp) hg
     rw [←hL] at hok
     subst hyd
     have hyS:y∈S:=by rw [hS];exact jZ.2 ⟨hy,hdc⟩
     have h1:=h y hyS
     simp only [sO,Bool.and_eq_true] at hok
     have h2:gD R (co σ y.patch)=true:=by
      have h3:=hok.2
      unfold gD at h3 ⊢
      rw [List.all_eq_true] at h3 ⊢
      intro e he
      obtain ⟨w,hw,hwe⟩:=da.1 (h3 e he)
      rw [←hwe]
      exact ih w hw (by rw [hwe];exact hcl y hy hdc e he)
     unfold sO at h1
     rw [h2,Bool.and_true] at h1
     simpa using h1
  have hxs:=jZ.1 (hS▸hx)
  obtain ⟨d,hd,hdx⟩:=da.1 (hc x hxs.1)
  rw [←hL] at hd
  have:=key L.length (Nat.le_refl _) d (by rw [List.take_length];exact hd) (by rw [hdx];exact hxs.2)
  rw [hdx] at this
  exact this
 ·have p1:=jo (σ:=σ) S S.length [] (by simp [dh])
  have p2:∀d∈dh (cr σ S S.length []),d∈dh (S.map fun x=>x.id):=by
   intro d hd
   simp only [dh,List.mem_map] at hd
   obtain ⟨e,he,rfl⟩:=hd
   rcases iT S _ _ e he with h | ⟨x,hx,rfl⟩
   ·simp at h
   ·exact hm x hx
  obtain ⟨q1,_⟩:=Db p1 p2 (by rw [hD];simp [dh,h])
  exact qj.2 (q1 _ (hm x hx))
def oA (σ:aZ) (s:List ah):List aH:=fT σ s (cr σ s s.length [])
theorem mt {s:List ah} (P:jt s) (hc:AS σ s) {a:aH}:a∈oA σ s↔∃x∈s,a∈bj σ x.patch:=by
 unfold oA fT
 rw [List.mem_flatten]
 constructor
 ·rintro ⟨w,hw,ha⟩
  obtain ⟨d,hd,rfl⟩:=List.mem_map.1 hw
  obtain ⟨_,x,hx,_,h2⟩:=d4 P.good (mu (σ:=σ) s d hd)
  exact ⟨x,hx,by rw [h2];exact ha⟩
 ·rintro ⟨x,hx,ha⟩
  obtain ⟨d,hd,hdd⟩:=da.1 (hc x hx)
  exact ⟨_,List.mem_map.2 ⟨d,hd,rfl⟩,by rw [hdd,(qh P.good hx).2];exact ha⟩
theorem Hs {s:List ah} (P:jt s):((oA σ s).map fun x=>x.id).Nodup:=J8 P (mu (σ:=σ) s) (jo s _ _ (by simp [dh]))
theorem Hr {s:List ah} (P:jt s) (hc:AS σ s):FW (gJ σ s) (oA σ s):=by
 constructor
 ·intro o y h
  rw [←zl P] at h
  have h2:=ct (List.find?_some (p:=fun x:aH=>aF x.id o) h)
  exact ⟨(mt P hc).2 (mX.1 (List.mem_of_find?_eq_some h)),h2⟩
 ·intro y hy
  obtain ⟨x,hx,ha⟩:=(mt P hc).1 hy
  exact ua P.good P.named hx ha
theorem lr {s:List ah} (P:jt s) {x:ah} (hx:x∈s) {a:aH} (ha:a∈bj σ x.patch):a.id.d=x.id.d:=by
 obtain ⟨i,hi⟩:=List.getElem?_of_mem ha
 rw [(gh (P.good.1 x hx) hi).1,P.named x hx]
theorem yi (hi:gZ σ) (hd:∀l,(σ.d l).Perm l) {s:List ah} (P:jt s) (hc:AS σ s) (file:aI) :
 (∀x∈s,bV (fV file (oA σ s)).2 x.id.d=true↔∃a∈bj σ x.patch,pK (gJ σ s) file a)∧(∀d∈(fV file (oA σ s)).2,∃x∈s,x.id=d):=by
 classical
 have he:=ry (σ:=σ) hi hd P
 have hG:=Hr P hc
 have hn:(dh (cr σ s s.length [])).Nodup:=jo s _ _ (by simp [dh])
 have hh:=mu (σ:=σ) s
 have key:=DJ (file:=file) hG he (fun d hdL x hx=>C3 P (hh d hdL) hx) hn (cB:=fun d=>decide (∃a∈bj σ (d3 s d.d),pK (gJ σ s) file a)) (fun d hdL=>by rw [decide_eq_true_eq]) _ (Nat.le_refl _)
 rw [List.take_length] at key
 have key':(fV file (oA σ s)).2=_:=key
 rw [key']
 constructor
 ·intro x hx
  rw [da]
  obtain ⟨d,hdL,hdd⟩:=da.1 (hc x hx)
  have hg:=(qh P.good hx).2
  constructor
  ·rintro ⟨e,he,hex⟩
   have h1:=(List.mem_filter.1 he).2
   rw [decide_eq_true_eq,hex,hg] at h1
   exact h1
  ·intro h
   exact ⟨d,List.mem_filter.2 ⟨hdL,by rw [decide_eq_true_eq,hdd,hg];exact h⟩,hdd⟩
 ·intro d hd
  rcases iT s _ _ d (List.mem_filter.1 hd).1 with h | h
  ·cases h
  ·exact h
theorem vE (hi:gZ σ) {s:List ah} (P:jt s) (d:aI):jE σ s d=(JL (iH (oA σ s)) d).isEmpty:=by
 have hh:=mu (σ:=σ) s
 have ho:oA σ s=E4 σ s (cr σ s s.length []):=rfl
 unfold jE qn
 rw [Hc,ho,(AK _ (fun x hx=>?_) d).2,List.isEmpty_reverse]
 unfold E4 at hx
 obtain ⟨l,hl,hxl⟩:=List.mem_flatten.1 hx
 obtain ⟨e,he,rfl⟩:=List.mem_map.1 hl
 obtain ⟨hp,y,hy,_,hyp⟩:=d4 P.good (hh e he)
 exact Cd hi hp (by rw [←hyp];exact P.free y hy) hxl
theorem AX (hi:gZ σ) (hd:∀l,(σ.d l).Perm l) {s:List ah} (P:jt s) (hc:AS σ s) (h4:oX s s=0) (file:aI) {c:List ar} (hcl:∀x∈s,bV c x.id.d=true→∀e∈co σ x.patch,bV c e.d=true)
 (ht:∀d∈(fV file (oA σ s)).2,bV c d.d=true) {x:ah} (hx:x∈s) {z:aH} (hz:z∈bj σ x.patch) (h7:z.kind≠7) (hf:aF z.file file=true):jE σ (cG s c) z.id=jE σ s z.id:=by
 have P':=P.keep c
 have hc':=GF hc hcl
 rw [vE hi P,vE hi P']
 have hG:=Hr P hc
 obtain ⟨t1,t2⟩:=yi hi hd P hc file
 have hzO:z∈oA σ s:=(mt P hc).2 ⟨x,hx,hz⟩
 refine (Ha (Hs P) (Hs P') (ry hi hd P) (ry hi hd P') (Q:=pK (gJ σ s) file) ?_ ?_ ?_ ?_).symm
 ·intro a ha hq y hy hk ho
  exact .back y a.id a hk ho (hG.of a ha) hq
 ·intro a ha
  obtain ⟨y,hy,hay⟩:=(mt P' hc').1 ha
  exact (mt P hc).2 ⟨y,(jZ.1 hy).1,hay⟩
 ·intro a ha hq
  obtain ⟨y,hy,hay⟩:=(mt P hc).1 ha
  have h1:=(t1 y hy).2 ⟨a,hay,hq⟩
  obtain ⟨e,he,hed⟩:=da.1 h1
  exact (mt P' hc').2 ⟨y,jZ.2 ⟨hy,by rw [←hed];exact ht e he⟩,hay⟩
 ·intro y hy ho
  by_cases hk:y.kind=7
  ·exact .back y z.id z hk ho (hG.of z hzO) (.own z h7 hf)
  ·obtain ⟨w,hw,hyw⟩:=(mt P hc).1 hy
   have:=E6 hi P h4 hw hyw hk hx hz ho
   exact .own y hk (by rw [←this];exact hf)
theorem vT {s:List ah} {c:List ar} {p:aH→Bool} (h:∀x∈s,(∃a∈bj σ x.patch,p a=true)→bV c x.id.d=true):(dC σ (cG s c)).filter p=(dC σ s).filter p:=by
 induction s with
 | nil=>rfl
 | cons x s ih =>
  have ih:=ih fun y hy=>h y (by simp [hy])
  have e1:dC σ (x::s)=bj σ x.patch++dC σ s:=rfl
  cases hx:bV c x.id.d with
  | true =>
   have e2:cG (x::s) c=x::cG s c:=by unfold cG;rw [List.filter_cons,hx];rfl
   have e3:dC σ (x::cG s c)=bj σ x.patch++dC σ (cG s c):=rfl
   rw [e2,e1,e3,List.filter_append,List.filter_append,ih]
  | false =>
   have e2:cG (x::s) c=cG s c:=by unfold cG;rw [List.filter_cons,hx];rfl
   have e4:(bj σ x.patch).filter p=[]:=by
    rw [List.filter_eq_nil_iff]
    intro a ha hp
    rw [h x (by simp) ⟨a,ha,hp⟩] at hx
    cases hx
   rw [e2,e1,List.filter_append,e4,ih];rfl
end Go.Proofs.Ev
namespace Go.Proofs.Ev
open Go.Proofs
variable {C:bG} {σ:aZ}
set_option maxHeartbeats 4000000 in
theorem AB (S:bY C σ) {base b g:Nat} {H:ag} {L:List aH} (hH:H[b]?=some (.rows 172 g (L.map aH.cells))) (hu:Up L) (hn:L.length≤2^40) (K:AV→ag→Prop) :
 aD Tryz.prog C base (.fn 108 []) [.sl b g 172 0 L.length,.int .i64 L.length,.fn 60 []] H K=K (.tup []) H:=by
 refine aD.eq (bn (S.plainU _ (by decide)).1 (S.plainU _ (by decide)).2 (am Tryz.func108 rfl (S.prim _ (by decide)) (by simp) (by kernel_rfl) ?_)) K
 unfold Tryz.f108
 obtain ⟨n,hnn⟩:∃n,n=L.length:=⟨_,rfl⟩
 rw [←hnn]
 obtain ⟨D,hD⟩:∃D,D=AV.sl b g 172 0 L.length:=⟨_,rfl⟩
 rw [hnn,←hD,←hnn]
 obtain ⟨c,hc⟩:∃c,c=AV.fn 60 []:=⟨_,rfl⟩
 rw [←hc]
 refine cut (fun s X=>s 0=D∧s 1=.int .i64 n∧s 2=c∧s 6=.int .i64 20∧X=H) ?_ ?_
 ·simp [aG]
 rintro s X ⟨q0,q1,q2,q6,hX⟩
 rw [hX];clear hX X
 refine cut (fun s X=>s 0=D∧s 1=.int .i64 n∧s 2=c∧s 6=.int .i64 20∧s 7=.int .i64 0∧s 8=.int .i64 20∧X=H) ?_ ?_
 ·simp [q0,q1,q2,q6]
 clear q0 q1 q2 q6
 rintro s X ⟨q0,q1,q2,q6,q7,q8,hX⟩
 rw [hX];clear hX X
 refine cut (fun s X=>s 0=D∧s 1=.int .i64 n∧s 2=c∧s 6=.int .i64 20∧(∃a:Nat,s 7=.int .i64 (a:Int)∧a≤n)∧X=H) ?_ ?_
 ·rw [cq,iW]
  refine cn (fun s X=>s 0=D∧s 1=.int .i64 n∧s 2=c∧s 6=.int .i64 20∧(∃a e:Nat,s 7=.int .i64 (a:Int)∧s 8=.int .i64 (e:Int)∧a≤n∧e=a+20)∧X=H) (fun s _=>n+20-vm (s 8)) ?_ ?_
  ·exact ⟨q0,q1,q2,q6,⟨0,20,q7,q8,by omega,by omega⟩,rfl⟩
  clear q0 q1 q2 q6 q7 q8
  rintro s X ⟨q0,q1,q2,q6,⟨a,e,q7,q8,ha,he⟩,hX⟩
  rw [hX];clear hX X
  by_cases hen:e≤n
  ·have ei:=fun K=>sd S (base:=base) hH hu hn (a:=a) (e:=e) (by omega) (by omega) K
   rw [←hD,←hc] at ei
   have w1:IntKind.i64.wrap ((e:Int)+20)=((e+20:Nat):Int):=by rw [aK (by omega) (by omega)];omega
   obtain ⟨e2,he2⟩:∃e2,e2=e+20:=⟨_,rfl⟩
   rw [←he2] at w1
   simp [q0,q1,q2,q6,q7,q8,hen,ei,w1]
   exact ⟨⟨e,rfl,by omega,by omega⟩,by omega⟩
  ·simp [q0,q1,q2,q6,q7,q8,hen]
   exact ⟨a,rfl,ha⟩
 clear q0 q1 q2 q6 q7 q8
 rintro s X ⟨q0,q1,q2,q6,⟨a,q7,ha⟩,hX⟩
 rw [hX];clear hX X
 refine cut (fun s X=>s 0=D∧s 1=.int .i64 n∧s 2=c∧s 6=.int .i64 20∧X=H) ?_ ?_
 ·have ei:=fun K=>sd S (base:=base) hH hu hn (a:=a) (e:=n) (by omega) (by omega) K
  rw [←hD,←hc] at ei
  simp [q0,q1,q2,q6,q7,ei]
 clear q0 q1 q2 q6 q7 ha a
 rintro s X ⟨q0,q1,q2,q6,hX⟩
 rw [hX];clear hX X
 rw [cq,iW]
 refine cn (fun s X=>s 0=D∧s 1=.int .i64 n∧s 2=c∧(∃k:Nat,s 6=.int .i64 (k:Int)∧0<k∧k≤2^42)∧X=H) (fun s _=>n-vm (s 6)) ?_ ?_
 ·exact ⟨q0,q1,q2,⟨20,q6,by omega,by omega⟩,rfl⟩
 clear q0 q1 q2 q6
 rintro s X ⟨q0,q1,q2,⟨k,q6,hk,hk2⟩,hX⟩
 rw [hX];clear hX X
 have hs6:vm (s 6)=k:=by rw [q6];simp
 by_cases hkn:k<n
 rotate_left
 ·simp [q0,q1,q2,q6,hkn]
 have w1:IntKind.i64.wrap (2*(k:Int))=((2*k:Nat):Int):=by rw [aK (by omega) (by omega)];omega
 have w1':IntKind.i64.wrap ((k:Int)*2)=((2*k:Nat):Int):=by rw [aK (by omega) (by omega)];omega
 obtain ⟨k2,hk2d⟩:∃k2,k2=2*k:=⟨_,rfl⟩
 rw [←hk2d] at w1 w1'
 refine cut (fun s X=>s 0=D∧s 1=.int .i64 n∧s 2=c∧s 6=.int .i64 (k:Int)∧X=H) ?_ ?_
 ·simp [q0,q1,q2,q6,hkn]
 clear q0 q1 q2 q6
 rintro s X ⟨q0,q1,q2,q6,hX⟩
 rw [hX];clear hX X
 rw [cq]
 refine cut (fun s X=>s 0=D∧s 1=.int .i64 n∧s 2=c∧s 6=.int .i64 (k:Int)∧s 7=.int .i64 0∧s 8=.int .i64 k2∧X=H) ?_ ?_
 ·simp [q0,q1,q2,q6,w1]
 clear q0 q1 q2 q6
 rintro s X ⟨q0,q1,q2,q6,q7,q8,hX⟩
 rw [hX];clear hX X
 refine cut (fun s X=>s 0=D∧s 1=.int .i64 n∧s 2=c∧s 6=.int .i64 (k:Int)∧(∃a:Nat,s 7=.int .i64 (a:Int)∧a≤n)∧X=H) ?_ ?_
 ·rw [cq,iW]
  refine cn (fun s X=>s 0=D∧s 1=.int .i64 n∧s 2=c∧s 6=.int .i64 (k:Int)∧(∃a e:Nat,s 7=.int .i64 (a:Int)∧s 8=.int .i64 (e:Int)∧a≤n∧e=a+k2)∧X=H) (fun s _=>n+k2-vm (s 8)) ?_ ?_
  ·exact ⟨q0,q1,q2,q6,⟨0,k2,q7,q8,by omega,by omega⟩,rfl⟩
  clear q0 q1 q2 q6 q7 q8
  rintro s X ⟨q0,q1,q2,q6,⟨a,e,q7,q8,ha,he⟩,hX⟩
  rw [hX];clear hX X
  by_cases hen:e≤n
  ·have w2:IntKind.i64.wrap ((a:Int)+k)=((a+k:Nat):Int):=by rw [aK (by omega) (by omega)];omega
   obtain ⟨ak,hak⟩:∃ak,ak=a+k:=⟨_,rfl⟩
   rw [←hak] at w2
   have ei:=fun K=>xC S (e-a) base b g H L hH hu hn a ak e (by omega) (by omega) (by omega) (by omega) K
   rw [←hD,←hc] at ei
   have w3:IntKind.i64.wrap ((e:Int)+k2)=((e+k2:Nat):Int):=by rw [aK (by omega) (by omega)];omega
   obtain ⟨e2,he2⟩:∃e2,e2=e+k2:=⟨_,rfl⟩
   rw [←he2] at w3
   simp [q0,q1,q2,q6,q7,q8,hen,ei,w1,w2,w3]
   exact ⟨⟨e,rfl,by omega,by omega⟩,by omega⟩
  ·simp [q0,q1,q2,q6,q7,q8,hen]
   exact ⟨a,rfl,ha⟩
 clear q0 q1 q2 q6 q7 q8
 rintro s X ⟨q0,q1,q2,q6,⟨a,q7,ha⟩,hX⟩
 rw [hX];clear hX X
 have w2:IntKind.i64.wrap ((a:Int)+k)=((a+k:Nat):Int):=by rw [aK (by omega) (by omega)];omega
 obtain ⟨ak,hak⟩:∃ak,ak=a+k:=⟨_,rfl⟩
 rw [←hak] at w2
 by_cases hakn:ak<n
 ·have ei:=fun K=>xC S (n-a) base b g H L hH hu hn a ak n (by omega) (by omega) (by omega) (by omega) K
  rw [←hD,←hc] at ei
  simp [q0,q1,q2,q6,q7,w2,hakn,ei,w1']
  exact ⟨⟨k2,rfl,by omega,by omega⟩,by omega⟩
 ·simp [q0,q1,q2,q6,q7,w2,hakn,w1']
  exact ⟨⟨k2,rfl,by omega,by omega⟩,by omega⟩
theorem Iu (S:bY C σ) {base b g:Nat} {H:ag} {L:List aH} (hH:H[b]?=some (.rows 172 g (L.map aH.cells))) (hu:Up L) (hn:L.length≤2^40) (K:AV→ag→Prop) :
 aD Tryz.prog C base (.fn 59 []) [.sl b g 172 0 L.length,.fn 60 []] H K=K (.tup []) H:=by
 have e:=fun K=>AB S (base:=base) hH hu hn K
 refine aD.eq (bn (S.plainU _ (by decide)).1 (S.plainU _ (by decide)).2 (am Tryz.func59 rfl (S.prim _ (by decide)) (by simp) (by kernel_rfl) ?_)) K
 unfold Tryz.f59
 simp [aG,e]
set_option maxHeartbeats 2000000 in
theorem uF (S:bY C σ) {s0:List ah} {k:SK} (hs:b8 s0) (h8:s0.length≤8) (hu:Up (dC σ s0)):cE Tryz.prog C 25 [] [aw k (s0.map ah.cells)] (aw (dS (dC σ s0)) ((dC σ s0).map aH.cells)):=by
 refine aB (S.pureU _ (by decide)) fun H=>am Tryz.func25 rfl (S.prim _ (by decide)) (by simp) (by kernel_rfl) ?_
 unfold Tryz.f25
 have hlen:=yy (σ:=σ) hs
 have hb0:∀i,(dC σ (s0.take i)).length≤720000:=fun i=>by
  have h1:=iz (f:=fun x:ah=>bj σ x.patch) (b:=90000) (l:=s0.take i) fun x hx=>gg (hs.1 x (List.mem_of_mem_take hx))
  have h2:(s0.take i).length≤8:=by simp;omega
  have h3:90000*(s0.take i).length≤90000*8:=Nat.mul_le_mul_left _ h2
  unfold dC;omega
 refine cut (fun s X=>s 0=aw k (s0.map ah.cells)∧X=H) ?_ ?_
 ·simp [aG]
 rintro s X ⟨q0,hX⟩
 rw [hX];clear hX X
 refine cut (fun s X=>s 0=aw k (s0.map ah.cells)∧s 3=.nils∧X=H) ?_ ?_
 ·simp [q0]
 clear q0
 rintro s X ⟨q0,q3,hX⟩
 rw [hX];clear hX X
 refine cut (fun s X=>H.length≤X.length∧gC H.length 172 X (s 3) ((dC σ s0).map aH.cells)) ?_ ?_
 ·simp [q0]
  refine az s0.length (fun i s X=>s 8=aw k (s0.map ah.cells)∧s 9=.int .i64 s0.length∧s 10=.int .i64 i∧H.length≤X.length∧gC H.length 172 X (s 3) ((dC σ (s0.take i)).map aH.cells)) ?_ ?_
  ·exact ⟨rfl,rfl,rfl,Nat.le_refl _,.inl ⟨by simp [dC],q3⟩⟩
  clear q0 q3
  rintro i s X ⟨q8,q9,q10,hX,hS⟩ hi
  by_cases h:i<s0.length
  rotate_left
  ·have h':i=s0.length:=by omega
   subst h'
   rw [List.take_length] at hS
   simp [q8,q9,q10]
   exact ⟨hX,hS⟩
  have hpg:=hs.1 s0[i] (List.getElem_mem h)
  have ea:=(j4 S.tod9 s0[i].patch hpg).eq
  have hAl:=gg (σ:=σ) hpg
  obtain ⟨A,hA⟩:∃A,A=bj σ s0[i].patch:=⟨_,rfl⟩
  have hAne:A≠[]:=by rw [hA];exact DW hpg
  have hsn:dC σ (s0.take (i+1))=dC σ (s0.take i)++A:=by rw [List.take_add_one,List.getElem?_eq_getElem h];exact (DS _ _).trans (by rw [hA])
  rw [←hA] at ea hAl
  obtain ⟨v',X',ha,hS',hl,_,_⟩:=(hS.app [.rows 37 0 [s0[i].cells]]).append (P:=Tryz.prog) (base:=H.length) (ts:=#[87,87]) (e:=83) (xd:=.slice 83) (x:=.lst (A.map aH.cells) false) (ys:=A.map aH.cells)
   (by simp) (by simp) nO p5 (by simp) (by decide) (Nat.le_refl _) (by simp;omega) rfl (fun r hr=>by obtain ⟨y,_,rfl⟩:=List.mem_map.1 hr;simp) (by simpa using hAne) (by have:=hb0 i;simp;omega)
  have hd0:aP.length=32:=by decide
  have hdr:List.drop 37 (dig aP++kM.cells)=[]:=by decide
  simp [q8,q9,q10,h,ao,aE,ea,hd0,hdr,hX,ha,ay h (by omega)]
  rw [hsn,List.map_append]
  simp at hl
  exact ⟨by omega,hS'⟩
 clear q0 q3
 rintro s X ⟨hX,hS⟩
 have hcl:∀L:List aH,AV.closedss (L.map aH.cells)=true:=fun L=>aM aH.closed _
 have hk:dS ((dC σ s0).map aH.cells)=dS (dC σ s0):=by unfold dS;cases dC σ s0<;>rfl
 have hf:=hS.freeze (d:=2) (Nat.le_refl _) (hcl _)
 rw [hk] at hf
 rcases hS with ⟨h0,q3⟩ | ⟨h0,b,g,q3,hg,hb⟩
 ·have es:=fun K=>CM S (base:=H.length) (H:=X) K
  rw [q3] at hf
  simp [q3,es]
  simpa using hf
 ·rw [List.length_map] at q3
  have es:=fun K=>Iu S (base:=H.length) hg hu (by omega) K
  rw [q3] at hf
  simp [q3,es]
  exact hf
end Go.Proofs.Ev
namespace Go.Proofs.Ev
open Go.Proofs
variable {C:bG} {σ:aZ}
structure eR (C:bG) (σ:aZ):Prop extends lp C σ where
 pureY:∀f,f∈[23,9,10]→C.pure f=true
 plainY:∀f,f∈[24,30,67]→C.pure f=false∧C.frz f=false
set_option maxHeartbeats 2000000 in
theorem Cn (S:bY C σ) {s0:List ah} {k:SK} (hs:b8 s0) (h8:s0.length≤8) (hu:Up (dC σ s0)):cE Tryz.prog C 58 [] [aw k (s0.map ah.cells)] (aw (dS (iR σ s0 (dC σ s0))) ((iR σ s0 (dC σ s0)).map aI.cells)):=by
 refine aB (S.pureU _ (by decide)) fun H=>am Tryz.func58 rfl (S.prim _ (by decide)) (by simp) (by kernel_rfl) ?_
 unfold Tryz.f58
 obtain ⟨v0,hv0⟩:∃v0,v0=aw k (s0.map ah.cells):=⟨_,rfl⟩
 obtain ⟨V,T,v1,v2,v3,v4,vlo,ek⟩:=BV S.tocT (k:=k) hs h8 (base:=H.length) (H:=H) (Nat.le_refl _)
 have hne:=G9 (σ:=σ) s0
 rw [←v2] at hne
 have hVl:H.length+2<V.length:=(List.getElem?_eq_some_iff.1 v1).1
 obtain ⟨L,hL⟩:∃L,L=dC σ s0:=⟨_,rfl⟩
 have ea:=(uF S (k:=k) hs h8 hu).eq
 have hLl:=nD hs h8 (List.Perm.refl (dC σ s0))
 rw [←hL] at ea hLl ⊢
 rw [←hv0] at ek ea ⊢
 refine cut (fun s X=>s 0=v0∧X=H) ?_ ?_
 ·simp [aG]
 rintro s X ⟨q0,hX⟩
 rw [hX];clear hX X
 refine cut (fun s X=>s 0=v0∧s 3=.map (H.length+2)∧X=V) ?_ ?_
 ·simp [q0,ek]
 clear q0
 rintro s X ⟨q0,q3,hX⟩
 rw [hX];clear hX X
 refine cut (fun s X=>s 0=v0∧s 3=.map (H.length+2)∧s 4=.nils∧X=V) ?_ ?_
 ·simp [q0,q3]
 clear q0
 rintro s X ⟨q0,q3,q4,hX⟩
 rw [hX];clear hX X
 refine cut (fun s X=>gC V.length 33 X (s 4) ((iR σ s0 L).map aI.cells)) ?_ ?_
 rotate_left
 ·rintro s X hS
  have hf:=hS.freeze (k:=H.length) (d:=2) (by omega) (aM aI.closed _)
  have hk:dS ((iR σ s0 L).map aI.cells)=dS (iR σ s0 L):=by unfold dS;cases iR σ s0 L<;>rfl
  rw [hk] at hf
  simp
  exact hf
 simp [q0,q3,q4,ea]
 refine az L.length (fun i s X=>s 3=.map (H.length+2)∧s 10=aw (dS L) (L.map aH.cells)∧s 11=.int .i64 L.length∧s 12=.int .i64 i∧V.length≤X.length∧(∀(k:Nat) (blk:bQ),V[k]?=some blk→X[k]?=some blk)∧gC V.length 33 X (s 4) ((iR σ s0 (L.take i)).map aI.cells)) ?_ ?_
 ·exact ⟨q3,rfl,rfl,rfl,Nat.le_refl _,fun _ _ h=>h,.inl ⟨by simp [iR],q4⟩⟩
 clear q0 q3 q4
 rintro i s X ⟨q3,q10,q11,q12,hX,hV,hS⟩ hi
 by_cases h:i<L.length
 rotate_left
 ·have h':i=L.length:=by omega
  subst h'
  rw [List.take_length] at hS
  simp [q3,q10,q11,q12]
  exact hS
 obtain ⟨x,hx⟩:∃x,x=L[i]:=⟨_,rfl⟩
 have hsn:=B1 (σ:=σ) s0 (L.take i) x
 have htk:L.take i++[x]=L.take (i+1):=by rw [List.take_add_one,List.getElem?_eq_getElem h,hx];rfl
 rw [htk] at hsn
 have hl0:=wd (σ:=σ) s0 (L.take i)
 have hl1:(L.take i).length≤L.length:=by simp;omega
 have hVX:∀M:ag,∀(k:Nat) (blk:bQ),V[k]?=some blk→(X++M)[k]?=some blk:=fun M k blk hk=>by
  have h1:=hV k blk hk
  rw [List.getElem?_append_left (List.getElem?_eq_some_iff.1 h1).1];exact h1
 have hm:=fun M=>hVX M _ _ v1
 have hks:=fun M=>v3.keep (X':=X++M) fun b g rs hb=>hVX M _ _ hb
 have hfx:∀M,ax (X++bQ.rows 172 0 [x.cells]::M) X.length 0 172 0=some x.cells:=fun M=>by simp
 have hbX:H.length≤X.length:=by omega
 rcases EJ S.toaA (hm [.rows 172 0 [x.cells]]) (hks _) hne x.id with ⟨h1,h2⟩ | ⟨h1,b,g,hb1,hb2,h2⟩
 ·have hal:jE σ s0 x.id=true:=by unfold jE;rw [←v2,h1];rfl
  rw [hal,if_pos rfl] at hsn
  obtain ⟨v',X',ha,hS',hl,_,hk⟩:=(hS.app [.rows 172 0 [x.cells]]).append (P:=Tryz.prog) (base:=H.length) (ts:=#[57,57]) (e:=27) (xd:=.slice 27) (x:=.lst [x.id.cells] true) (ys:=[x.id.cells])
   (by simp) (by simp) jS A7 (by simp) (by decide) (by omega) (by simp;omega) rfl (by simp) (by simp) (by simp;omega)
  simp at hl
  simp [q3,q10,q11,q12,h,←hx,ao,aE,hbX,h2,aj,au,ha,ay h (by omega)]
  rw [hsn,List.map_append]
  refine ⟨by omega,fun k blk hkb=>(hk k blk (hVX _ k blk hkb) ?_).1,hS'⟩
  intro b g l hvb hkb'
  rcases hS with ⟨_,hS⟩ | ⟨_,b',g',hS,hS2,hS3⟩
  ·rw [hvb] at hS;cases hS
  ·rw [hvb] at hS;cases hS
   have:=(List.getElem?_eq_some_iff.1 hkb).1;omega
 ·have hal:jE σ s0 x.id=false:=by unfold jE;rw [←v2];cases hq:fR (T.map KR.m) x.id with | nil=>exact absurd hq h1 | cons _ _=>rfl
  rw [hal,if_neg (by decide),List.append_nil] at hsn
  have hne0:¬((fR (T.map KR.m) x.id).length:Int)=0:=by have:=List.length_pos_iff.2 h1;omega
  simp [q3,q10,q11,q12,h,←hx,ao,aE,hbX,h2,h1,ay h (by omega)]
  rw [hsn]
  exact ⟨by omega,fun k blk hkb=>hVX _ k blk hkb,hS.app _⟩
def lF (l:List aI):List aI:=l.foldl oQ []
theorem BT (l:List aI) (d:aI):lF (l++[d])=oQ (lF l) d:=by unfold lF;rw [List.foldl_append];rfl
theorem Ex (l:List aI) (d x:aI):gO (l++[d]) x=(gO l x||aF d x):=by simp [gO]
theorem G0 (l:List aI) (d x:aI):gO (oQ l d) x=(gO l x||aF d x):=by
 unfold oQ
 split
 ·rename_i h
  by_cases hs:aF d x=true
  ·rw [←ct hs,h];simp
  ·simp [hs]
 ·exact Ex l d x
theorem Ew (l:List aI) (x:aI):gO (lF l) x=gO l x:=by
 have key:∀(l a:List aI),gO (l.foldl oQ a) x=(gO a x||gO l x):=by
  intro l
  induction l with
  | nil=>intro a;simp [gO]
  | cons d l ih =>
   intro a
   rw [List.foldl_cons,ih,G0]
   simp only [gO,List.any_cons,Bool.or_assoc]
 rw [lF,key];rfl
theorem yx (S:eR C σ) {s0:List ah} {k:SK} (hs:b8 s0) (h8:s0.length≤8) (hu:Up (dC σ s0)) {base:Nat} {H:ag} (hb:base≤H.length) :
 ∃J,∀K:AV→ag→Prop,aD Tryz.prog C base (.fn 24 []) [aw k (s0.map ah.cells)] H K=K (.map H.length) (H++.map (cC (iY (lF (iR σ s0 (dC σ s0)))))::J):=by
 suffices h:aD Tryz.prog C base (.fn 24 []) [aw k (s0.map ah.cells)] H (fun v' H'=>∃J,v'=.map H.length∧H'=H++.map (cC (iY (lF (iR σ s0 (dC σ s0)))))::J) by
  obtain ⟨n,v1,H1,h1,J,rfl,rfl⟩:=h
  exact ⟨J,fun K=>aD.eq ⟨n,_,_,h1,rfl,rfl⟩ K⟩
 refine bn (S.plainY _ (by decide)).1 (S.plainY _ (by decide)).2 (am Tryz.func24 rfl (S.prim _ (by decide)) (by simp) (by kernel_rfl) ?_)
 unfold Tryz.f24
 have el:=(Cn S.tobY (k:=k) hs h8 hu).eq
 have hLl:=nD hs h8 (List.Perm.refl (dC σ s0))
 have hll:=wd (σ:=σ) s0 (dC σ s0)
 obtain ⟨L,hL⟩:∃L,L=iR σ s0 (dC σ s0):=⟨_,rfl⟩
 rw [←hL] at el hll ⊢
 simp [aG,el]
 refine az L.length (fun i s H'=>s 3=.map H.length∧s 8=aw (dS L) (L.map aI.cells)∧s 9=.int .i64 L.length∧s 10=.int .i64 i∧∃J,H'=H++.map (cC (iY (lF (L.take i))))::J) ?_ ?_
 ·exact ⟨rfl,rfl,rfl,rfl,[],rfl⟩
 rintro i s H' ⟨q3,q8,q9,q10,J,rfl⟩ hi
 by_cases h:i<L.length
 ·have hsn:lF (L.take (i+1))=oQ (lF (L.take i)) L[i]:=by rw [←BT,List.take_add_one,List.getElem?_eq_getElem h];rfl
  have eu:=DM S.toaA (base:=base) (X:=H++.map (cC (iY (lF (L.take i))))::(J++[.rows 33 0 [L[i].cells]])) (m:=H.length) (l:=lF (L.take i)) hb (by simp) L[i]
  rw [←hsn] at eu
  have hb2:base≤H.length+(J.length+1):=by omega
  simp [q3,q8,q9,q10,h,ao,aE,eu,hb2,ay h (by omega)]
 ·have h':i=L.length:=by omega
  subst h'
  rw [List.take_length]
  simp [q3,q8,q9,q10]
def nP (σ:aZ) (s:List ah) (id:aI):Int:=match gJ σ s id with | none=>7 | some x=>if x.kind=1∧x.type=1 then 0 else 8
theorem yb (S:eR C σ) (l:List ah) (k:SK) (id:aI) (hl:b8 l):cE Tryz.prog C 23 [] [aw k (l.map ah.cells),.agg id.cells] (.int .i64 (nP σ l id)):=by
 refine aB (S.pureY _ (by decide)) fun H=>am Tryz.func23 rfl (S.prim _ (by decide)) (by simp) (by kernel_rfl) ?_
 unfold Tryz.f23 nP
 have e:=(Ai S.tobB l k id hl).eq
 cases hf:gJ σ l id with
 | none =>
  rw [hf] at e
  simp only [Option.getD_none,Option.isSome_none] at e
  simp [aG,e,ao,aE,an]
 | some x =>
  rw [hf] at e
  simp only [Option.getD_some,Option.isSome_some] at e
  by_cases hk:x.kind=1
  ·by_cases ht:x.type=1
   ·simp [aG,e,ao,aE,an,hk,ht]
   ·simp [aG,e,ao,aE,an,hk,ht]
  ·have hkb:(x.kind != 1)=true:=by simpa using hk
   simp [aG,e,ao,aE,an,hk,hkb]
end Go.Proofs.Ev
namespace Go.Proofs.Ev
open Go.Proofs
variable {C:bG} {σ:aZ}
theorem DU {α:Type} (p:α→Bool) (l:List α) {i:Nat} (h:i<l.length):(l.take (i+1)).any p=((l.take i).any p||p l[i]):=by
 rw [List.take_add_one,List.getElem?_eq_getElem h,List.any_append];simp
theorem LN (y:aH):y.cells.take 32=y.id.dv.cells:=by
 have h:y.cells=dig y.id.d++(y.cells.drop 32):=by
  have h1:y.cells.take 32=dig y.id.d:=by
   unfold aH.cells aI.cells
   rw [List.append_assoc,List.take_append_of_le_length (by simp [y.id.h])]
   exact List.take_of_length_le (by simp [y.id.h])
  rw [←h1,List.take_append_drop]
 rw [h,List.take_append_of_le_length (by simp [y.id.h])]
 exact List.take_of_length_le (by simp [y.id.h])
theorem FP {P:Program} {N base b:Nat} {l:List AV} {s:Sl} {ps:List Tmp} {assign body:Code} {args:List AV} {H:ag} {K:AV→ag→Prop} (M:Sl→ag→Prop) (hr:lT N l s) (hget:H[b]?=some (cL l ps assign body)) (hbase:base≤b)
 (hlen:args.length=ps.length) (hps:∀p∈ps,p<N) (hsa:kJ P assign=true) (hsb:kJ P body=true)
 (ha:je P C N base assign (vw ps args s) H (Bn (fun s1 H1=>H1[b]?=some (cL l ps assign body)∧M s1 (H1.set b (mZ l ps assign body))) fun _ _ _=>False))
 (hb:∀s1 H1,M s1 H1→je P C N base body s1 H1 fun e _ H3=>H3[b]?=some (mZ l ps assign body)∧K (.bool e.code.isNone) (H3.set b (yX e l ps assign body))) :
 aD P C base (.yld b) args H K:=by
 refine ir hr hget hbase hlen hps hsa hsb (gU (fun e s' H' h=>?_) ha)
 cases e with
 | normal=>exact ⟨h.1,hb _ _ h.2⟩
 | exit i=>exact h
 | ret=>exact h
set_option maxRecDepth 100000 in
set_option maxHeartbeats 8000000 in
theorem xU (S:lp C σ) (s0:List ah) (k:SK) (file:aI) (hs:b8 s0) (h8:s0.length≤8) :
 cE Tryz.prog C 6 [] [aw k (s0.map ah.cells),.agg file.cells] (if kX σ s0 file 1=0 then .tup [aw (dS (fV file (fT σ s0 (cr σ s0 s0.length []))).2) ((fV file (fT σ s0 (cr σ s0 s0.length []))).2.map ar.cells),.int .i64 0] else .tup [.nils,.int .i64 (kX σ s0 file 1)]):=by
 refine aB (S.pureW _ (by decide)) fun H=>am Tryz.func6 rfl (S.prim _ (by decide)) (by simp) (by kernel_rfl) ?_
 unfold Tryz.f6
 have ef:=(wx S.tocT s0 k file 1 hs).eq
 obtain ⟨v,hv⟩:∃v,v=aw k (s0.map ah.cells):=⟨_,rfl⟩
 have hvl:v.leaf=true:=by rw [hv];simp
 have hvc:v.cells=[v]:=by rw [hv];simp
 have ep:=fun (X:ag) (K:AV→ag→Prop)=>vF S.tobY v hvl hvc (base:=H.length) (H:=X) K
 rw [←hv] at ef ⊢
 obtain ⟨O,hO⟩:∃O,O=fT σ s0 (cr σ s0 s0.length []):=⟨_,rfl⟩
 rw [←hO]
 refine cut (fun s X=>s 0=v∧s 3=.ptr H.length 0 33 0 0∧X=H++[.rows 33 0 [file.cells]]) ?_ ?_
 ·simp [aG]
 rintro s X ⟨q0,q3,rfl⟩
 by_cases he:kX σ s0 file 1=0
 rotate_left
 ·rw [if_neg he]
  simp [q0,q3,ef,he]
  exact bN (by simp) (by simp)
 rw [if_pos he]
 rw [he] at ef
 refine cut (fun s X=>s 0=v∧s 3=.ptr H.length 0 33 0 0∧X=H++[.rows 33 0 [file.cells]]) ?_ ?_
 ·simp [q0,q3,ef]
 clear q0 q3
 rintro s X ⟨q0,q3,rfl⟩
 have hnm:AV.nilm.cells.length=1:=rfl
 have hnt:AV.nilm.cells.tail=[]:=rfl
 have b2:H.length≤H.length+2:=by omega
 refine cut (fun s X=>s 0=v∧s 3=.ptr H.length 0 33 0 0∧s 7=.ptr (H.length+2) 0 1 0 0∧X=H++[.rows 33 0 [file.cells],.map [],.rows 1 0 [[.map (H.length+1)]]]) ?_ ?_
 ·simp [q0,q3,ao,hnm,hnt,b2]
 clear q0 q3
 rintro s X ⟨q0,q3,q7,rfl⟩
 refine cut (fun s X=>s 0=v∧s 3=.ptr H.length 0 33 0 0∧s 7=.ptr (H.length+2) 0 1 0 0∧s 8=.ptr (H.length+3) 0 1 0 0∧X=H++[.rows 33 0 [file.cells],.map [],.rows 1 0 [[.map (H.length+1)]],.rows 1 0 [[.nils]]]) ?_ ?_
 ·simp [q0,q3,q7]
 clear q0 q3 q7
 rintro s X ⟨q0,q3,q7,q8,rfl⟩
 refine cut (fun s X=>s 8=.ptr (H.length+3) 0 1 0 0∧∃w,X[H.length+3]?=some (.rows 1 0 [[w]])∧gC (H.length+6) 32 X w ((fV file O).2.map ar.cells)) ?_ ?_
 rotate_left
 ·rintro s X ⟨q8,w,hw,hS⟩
  have hf:=hS.freeze (k:=H.length) (d:=1) (by omega) (aM ar.closed _)
  have hk:dS ((fV file O).2.map ar.cells)=dS (fV file O).2:=by unfold dS;cases (fV file O).2<;>rfl
  rw [hk] at hf
  have hr:ax X (H.length+3) 0 1 0=some [w]:=by simp [ax,hw]
  simp [q8,hr]
  exact bN hf (by simp)
 refine cut (fun s X=>s 3=.ptr H.length 0 33 0 0∧s 7=.ptr (H.length+2) 0 1 0 0∧s 8=.ptr (H.length+3) 0 1 0 0∧s 21=.fn 54 [.ptr (H.length+4) 0 1 0 0]∧X=H++[.rows 33 0 [file.cells],.map [],.rows 1 0 [[.map (H.length+1)]],.rows 1 0 [[.nils]],.rows 1 0 [[v]]]) ?_ ?_
 ·simp [q0,q3,q7,q8,ep]
 clear q0 q3 q7 q8
 rintro s X ⟨q3,q7,q8,q21,rfl⟩
 rw [cq,nR]
 refine il (f:=54) (caps:=[.ptr (H.length+4) 0 1 0 0]) (by simp [q21]) fun l1 hr1=>?_
 obtain ⟨X0,hX0⟩:∃X0,X0=H++[.rows 33 0 [file.cells],.map [],.rows 1 0 [[.map (H.length+1)]],.rows 1 0 [[.nils]],.rows 1 0 [[v]]]:=⟨_,rfl⟩
 have hX0l:X0.length=H.length+5:=by rw [hX0];simp
 rw [←hX0,hX0l]
 have g0:X0[H.length]?=some (.rows 33 0 [file.cells]):=by rw [hX0,tg];rfl
 have g1:X0[H.length+1]?=some (.map []):=by rw [hX0,bt];rfl
 have g2:X0[H.length+2]?=some (.rows 1 0 [[.map (H.length+1)]]):=by rw [hX0,bt];rfl
 have g3:X0[H.length+3]?=some (.rows 1 0 [[.nils]]):=by rw [hX0,bt];rfl
 have g4:X0[H.length+4]?=some (.rows 1 0 [[v]]):=by rw [hX0,bt];rfl
 have gM:∀{b:Nat} {blk:bQ} (M:ag),X0[b]?=some blk→(X0++M)[b]?=some blk:=fun M h=>by rw [List.getElem?_append_left (List.getElem?_eq_some_iff.1 h).1];exact h
 refine IJ S.tobY (k:=k) (base:=H.length) (lo:=H.length+6) (bl:=H.length+5) (bs:=H.length+4) (fb:=H.length) (mb:=H.length+2) (m:=H.length+1) (ob:=H.length+3) (file:=file) hs h8 rfl rfl ?_ ?_ _ ?_
 rotate_left
 ·rw [←hv]
  exact ⟨by rw [List.getElem?_append_right (by omega),hX0l];simp,bH (by simp [ax,g4]) _,bH (by simp [ax,g0]) _,bH (by simp [ax,g2]) _,gM _ g1,⟨.nils,gM _ g3,.inl ⟨rfl,rfl⟩⟩,by simp;omega⟩
 ·rintro V ⟨hbl,hbs,hfb,hmb,hm,⟨w,hw,hS⟩,hlow⟩
  rw [gf hbl]
  simp
  rw [←hO] at hS
  exact ⟨q8,w,hw,hS.keep fun b g rs hb h=>by rw [List.getElem?_set_ne (by omega)];exact h⟩
 rw [←hv]
 rintro LB BB hLB hBB l V y hT hl ho
 have hLr:∀sz g rs,LB≠.rows sz g rs:=by intro sz g rs h;rw [←hLB] at h;cases h
 have hBr:∀sz g rs,BB≠.rows sz g rs:=by intro sz g rs h;rw [←hBB] at h;cases h
 obtain ⟨hbl,hbs,hfb,hmb,hm,⟨w,hw,hS⟩,hlow⟩:=hT
 obtain ⟨T,hTe⟩:∃T,T=fV file l:=⟨_,rfl⟩
 have hTl:=AF file l
 rw [←hTe] at hm hS hTl
 have hblV:H.length+5<V.length:=(List.getElem?_eq_some_iff.1 hbl).1
 obtain ⟨W,hW⟩:∃W,W=V.set (H.length+5) BB:=⟨_,rfl⟩
 have hWl:W.length=V.length:=by rw [hW];simp
 have hgl:∀M,(V++M)[H.length+5]?=some LB:=fun M=>by rw [List.getElem?_append_left hblV];exact hbl
 have hsl:∀M,(V++M).set (H.length+5) BB=W++M:=fun M=>by rw [hW];exact List.set_append_left _ _ hblV
 have up:∀{b:Nat} {blk:bQ},b≠H.length+5→V[b]?=some blk→W[b]?=some blk:=fun hb h=>by rw [hW,List.getElem?_set_ne (Ne.symm hb)];exact h
 have upr:∀{b e:Nat} {r:List AV},b≠H.length+5→ax V b 0 e 0=some r→ax W b 0 e 0=some r:=fun hb h=>by
  unfold ax at h ⊢
  rw [hW,List.getElem?_set_ne (Ne.symm hb)];exact h
 have hWb:W[H.length+5]?=some BB:=by rw [hW,List.getElem?_set_self hblV]
 obtain ⟨is0,his0⟩:∃is0,is0=xg file T.1 y:=⟨_,rfl⟩
 have hsn:fV file (l++[y])=ol file T y:=by rw [rK,hTe]
 have e:=jk S.toaA
 have hbV:H.length≤V.length:=by omega
 refine FP (fun s X=>s 3=.ptr H.length 0 33 0 0∧s 7=.ptr (H.length+2) 0 1 0 0∧s 8=.ptr (H.length+3) 0 1 0 0∧s 9=.ptr V.length 0 172 0 0∧X=W++[.rows 172 0 [y.cells]]) hr1 (hget:=by rw [hLB];exact hbl) (by omega) rfl (by decide) (by kernel_rfl) (by kernel_rfl) ?_ ?_
 ·rw [hLB,hBB]
  simp [q3,q7,q8,ao,hbV,hgl,hsl]
 rw [hBB]
 clear q3 q7 q8
 rintro s X ⟨q3,q7,q8,q9,hX⟩
 rw [hX];clear hX X
 have hT0:FR H.length (H.length+6) (H.length+5) (H.length+4) H.length (H.length+2) (H.length+1) (H.length+3) BB v file l W:=by
  refine ⟨hWb,upr (by omega) hbs,upr (by omega) hfb,upr (by omega) hmb,by rw [←hTe];exact up (by omega) hm,⟨w,up (by omega) hw,by rw [←hTe];exact hS.keep fun b g rs hb h=>up (by omega) h⟩,by omega⟩
 have hT1:=hT0.app [.rows 172 0 [y.cells]]
 have hy1:ax (W++[.rows 172 0 [y.cells]]) V.length 0 172 0=some y.cells:=by rw [←hWl];simp
 obtain ⟨X,hX⟩:∃X,X=W++[.rows 172 0 [y.cells]]:=⟨_,rfl⟩
 rw [←hX] at hT1 hy1 ⊢
 have hXl:V.length<X.length:=by rw [hX];simp;omega
 clear hX hT0
 rw [cq]
 refine cut (fun s X'=>s 3=.ptr H.length 0 33 0 0∧s 7=.ptr (H.length+2) 0 1 0 0∧s 8=.ptr (H.length+3) 0 1 0 0∧s 9=.ptr V.length 0 172 0 0∧s 10=.bool (if y.kind=7 then false else aF y.file file)∧X'=X) ?_ ?_
 ·have hfr:=hT1.hfb
  by_cases hk:y.kind=7
  ·simp [q3,q7,q8,q9,hy1,an,hk]
  ·have hkb:(y.kind != 7)=true:=by simpa using hk
   simp [q3,q7,q8,q9,hy1,an,hk,hkb,hfr,e]
 clear q3 q7 q8 q9
 rintro s X' ⟨q3,q7,q8,q9,q10,hXX⟩
 rw [hXX];clear hXX X'
 refine cut (fun s Z=>s 3=.ptr H.length 0 33 0 0∧s 7=.ptr (H.length+2) 0 1 0 0∧s 8=.ptr (H.length+3) 0 1 0 0∧s 9=.ptr V.length 0 172 0 0∧s 10=.bool is0∧FR H.length (H.length+6) (H.length+5) (H.length+4) H.length (H.length+2) (H.length+1) (H.length+3) BB v file l Z∧ax Z V.length 0 172 0=some y.cells) ?_ ?_
 ·by_cases hk:y.kind=7
  rotate_left
  ·rw [if_neg hk] at q10
   have hkb:(y.kind==7)=false:=by simpa using hk
   have:is0=aF y.file file:=by rw [his0];unfold xg;rw [if_neg hk]
   simp [q3,q7,q8,q9,q10,hy1,hkb,this]
   exact hT1
  rw [if_pos hk] at q10
  have his:is0=y.over.any (iB T.1):=by rw [his0];unfold xg;rw [if_pos hk]
  simp [q3,q7,q8,q9,q10,hy1,hk]
  refine az y.over.length (fun j s Z=>s 3=.ptr H.length 0 33 0 0∧s 7=.ptr (H.length+2) 0 1 0 0∧s 8=.ptr (H.length+3) 0 1 0 0∧s 9=.ptr V.length 0 172 0 0∧s 10=.bool ((y.over.take j).any (iB T.1))∧s 36=aw y.overK (y.over.map aI.cells)∧s 37=.int .i64 y.over.length∧s 38=.int .i64 j∧FR H.length (H.length+6) (H.length+5) (H.length+4) H.length (H.length+2) (H.length+1) (H.length+3) BB v file l Z∧ax Z V.length 0 172 0=some y.cells) ?_ ?_
  ·exact ⟨q3,q7,q8,q9,by simpa using q10,rfl,rfl,rfl,hT1,hy1⟩
  clear q3 q7 q8 q9 q10
  rintro j s Z ⟨q3,q7,q8,q9,q10,q36,q37,q38,hTZ,hyZ⟩ hj
  by_cases hjl:j<y.over.length
  rotate_left
  ·have h':j=y.over.length:=by omega
   subst h'
   rw [List.take_length,←his] at q10
   simp [q3,q7,q8,q9,q10,q36,q37,q38]
   exact ⟨hTZ,hyZ⟩
  obtain ⟨z,hz⟩:∃z,z=y.over[j]:=⟨_,rfl⟩
  have hbZ:H.length≤Z.length:=by have:=hTZ.low;omega
  have hTZ2:=hTZ.app [.rows 33 0 [z.cells]]
  have hlk:=Hf S.toaA hTZ2.hm z
  rw [←hTe] at hlk
  have hmr:=hTZ2.hmb
  have hzr:∀M,ax (Z++bQ.rows 33 0 [z.cells]::M) Z.length 0 33 0=some z.cells:=fun M=>by simp
  have ht:=DU (iB T.1) y.over hjl
  rw [←hz] at ht
  have w38:=ay hjl (by omega)
  cases hc:(y.over.take j).any (iB T.1) with
  | true =>
   rw [hc] at q10 ht
   simp [q3,q7,q8,q9,q10,q36,q37,q38,hjl,←hz,ao,hbZ,an,w38]
   exact ⟨List.any_eq_true.1 ht,hTZ2,bH hyZ _⟩
  | false =>
   rw [hc] at q10 ht
   simp [q3,q7,q8,q9,q10,q36,q37,q38,hjl,←hz,ao,hbZ,an,hmr,hzr,hlk,w38]
   rw [Bool.false_or] at ht
   exact ⟨ht.symm,hTZ2,bH hyZ _⟩
 clear q3 q7 q8 q9 q10 hT1 hy1
 rintro s Z ⟨q3,q7,q8,q9,q10,hTZ,hyZ⟩
 obtain ⟨zbl,zbs,zfb,zmb,zm,⟨u,zu,zS⟩,zlow⟩:=hTZ
 rw [←hTe] at zm zS
 have hmZ:H.length+1<Z.length:=(List.getElem?_eq_some_iff.1 zm).1
 have eu:=KL S.toaA (base:=H.length) (by omega) zm y.id is0
 obtain ⟨T1,hT1⟩:∃T1,T1=qK T.1 y.id is0:=⟨_,rfl⟩
 rw [←hT1] at eu
 obtain ⟨Z1,hZ1⟩:∃Z1,Z1=Z.set (H.length+1) (.map (cC (mO T1))):=⟨_,rfl⟩
 rw [←hZ1] at eu
 have k1:∀{b:Nat} {blk:bQ},b≠H.length+1→Z[b]?=some blk→Z1[b]?=some blk:=fun hb h=>by rw [hZ1,List.getElem?_set_ne (Ne.symm hb)];exact h
 have k1r:∀{b e:Nat} {r:List AV},b≠H.length+1→ax Z b 0 e 0=some r→ax Z1 b 0 e 0=some r:=fun hb h=>by
  unfold ax at h ⊢
  rw [hZ1,List.getElem?_set_ne (Ne.symm hb)];exact h
 have y1:=k1r (by omega) hyZ
 have u1:=k1 (by omega) zu
 have bl1:=k1 (by omega) zbl
 have m1:Z1[H.length+1]?=some (.map (cC (mO T1))):=by rw [hZ1,List.getElem?_set_self hmZ]
 have ur:ax Z1 (H.length+3) 0 1 0=some [u]:=by simp [ax,u1]
 have S1:gC (H.length+6) 32 Z1 u (T.2.map ar.cells):=zS.keep fun b g rs hb h=>k1 (by omega) h
 have len1:Z1.length=Z.length:=by rw [hZ1];simp
 have fin:∀{Zf:ag},Zf[H.length+5]?=some BB→Z1.length≤Zf.length→(∀(b:Nat) (blk:bQ),Z1[b]?=some blk→b≠H.length+3→b<H.length+6→Zf[b]?=some blk)→(∃u2,Zf[H.length+3]?=some (.rows 1 0 [[u2]])∧gC (H.length+6) 32 Zf u2 ((ol file T y).2.map ar.cells))→
  FR H.length (H.length+6) (H.length+5) (H.length+4) H.length (H.length+2) (H.length+1) (H.length+3) LB v file (l++[y]) (Zf.set (H.length+5) LB):=by
  rintro Zf hZb hZl hk ⟨u2,hu2,hS2⟩
  have hbl2:=(List.getElem?_eq_some_iff.1 hZb).1
  have dn:∀{b e:Nat} {r:List AV},b≠H.length+5→b≠H.length+1→b≠H.length+3→b<H.length+6→ax Z b 0 e 0=some r→ax (Zf.set (H.length+5) LB) b 0 e 0=some r:=fun {b e r} h1 h2 h3 h4 h=>by
   have h5:=k1r h2 h
   unfold ax at h5 ⊢
   rw [List.getElem?_set_ne (Ne.symm h1)]
   cases hx:Z1[b]? with
   | none=>rw [hx] at h5;cases h5
   | some blk=>rw [hx] at h5;rw [hk b blk hx h3 h4];exact h5
  refine ⟨by rw [List.getElem?_set_self hbl2],dn (by omega) (by omega) (by omega) (by omega) zbs,dn (by omega) (by omega) (by omega) (by omega) zfb,dn (by omega) (by omega) (by omega) (by omega) zmb,?_,⟨u2,by rw [List.getElem?_set_ne (by omega)];exact hu2,?_⟩,by simp;omega⟩
  ·rw [hsn,List.getElem?_set_ne (by omega)]
   have:(ol file T y).1=T1:=by rw [hT1,his0];rfl
   rw [this]
   exact hk _ _ m1 (by omega) (by omega)
  ·rw [hsn]
   exact hS2.keep fun b g rs hb h=>by rw [List.getElem?_set_ne (by omega)];exact h
 refine cut (fun s Z=>s 8=.ptr (H.length+3) 0 1 0 0∧s 9=.ptr V.length 0 172 0 0∧s 10=.bool is0∧Z=Z1) ?_ ?_
 ·simp [q7,q8,q9,q10,zmb,hyZ,eu]
 clear q3 q7 q8 q9 q10
 rintro s Z' ⟨q8,q9,q10,hZZ⟩
 rw [hZZ];clear hZZ Z'
 have hdc:y.id.dv.cells=dig y.id.d:=rfl
 have htd:=LN y
 have ndig:=fun a b:ar=>lI (mj S.toaA a b)
 cases his:is0 with
 | false =>
  rw [his] at q10
  have hu:(ol file T y).2=T.2:=by unfold ol;rw [←his0,his];simp
  simp [q8,q9,q10,an,bl1,hLB]
  exact ⟨rfl,fin bl1 (Nat.le_refl _) (fun b blk h _ _=>h) ⟨u,u1,by rw [hu];exact S1⟩⟩
 | true =>
  rw [his] at q10
  refine cut (fun s Z=>s 8=.ptr (H.length+3) 0 1 0 0∧s 9=.ptr V.length 0 172 0 0∧s 70=.bool (decide ((T.2.getLast?.map (·.d))≠some y.id.d))∧Z=Z1) ?_ ?_
  ·rcases S1 with ⟨hT0,hu0⟩ | ⟨hTn,b,g,hu0,hbk,hlo⟩
   ·have hT:T.2=[]:=List.map_eq_nil_iff.1 hT0
    rw [hu0] at ur
    simp [q8,q9,q10,an,ur,hT]
   ·have hne:T.2≠[]:=fun h=>hTn (by rw [h];rfl)
    obtain ⟨z,hz⟩:∃z,z=T.2.getLast hne:=⟨_,rfl⟩
    have hlen:0<T.2.length:=List.length_pos_iff.2 hne
    have hg:T.2.getLast?=some z:=by rw [hz,List.getLast?_eq_some_getLast hne]
    obtain ⟨j,hj⟩:∃j,T.2.length=j+1:=⟨T.2.length-1,by omega⟩
    have hrow:ax Z1 b g 32 j=some z.cells:=by
     have h1:j=T.2.length-1:=by omega
     simp [ax,hbk,hz,List.getLast_eq_getElem,h1]
     exact ⟨_,List.getElem?_eq_getElem (by omega),rfl⟩
    rw [List.length_map,hj] at hu0
    rw [hu0] at ur
    have hnd:=ndig z y.id.dv
    have hj1:(((j:Int)+1)==0)=false:=by simp;omega
    have hj2:IntKind.wrap .i64 (j:Int)=(j:Int):=gy (by omega)
    have hjl:(j:Int)<(j:Int)+1:=by omega
    have hzc:z.cells.length=32:=by simp
    simp [q8,q9,q10,an,ur,y1,hg,hrow,htd,hnd,hj1,hj2,hjl,hzc]
    exact Iff.rfl
  clear q8 q9 q10
  rintro s Z' ⟨q8,q9,q70,hZZ⟩
  rw [hZZ];clear hZZ Z'
  by_cases hl2:(T.2.getLast?.map (·.d))≠some y.id.d
  rotate_left
  ·have hu:(ol file T y).2=T.2:=by unfold ol;rw [←his0,his];exact if_neg fun h=>hl2 h.2
   rw [decide_eq_false hl2] at q70
   simp [q8,q70,bl1,hLB]
   exact ⟨rfl,fin bl1 (Nat.le_refl _) (fun b blk h _ _=>h) ⟨u,u1,by rw [hu];exact S1⟩⟩
  have hu:(ol file T y).2=T.2++[y.id.dv]:=by unfold ol;rw [←his0,his];exact if_pos ⟨rfl,hl2⟩
  rw [decide_eq_true hl2] at q70
  obtain ⟨u2,Z2,ea,hS',hl',⟨b',g',l',hu'⟩,hk'⟩:=S1.append (P:=Tryz.prog) (base:=H.length) (ts:=#[30,30]) (e:=25) (xd:=.slice 25) (x:=.lst [y.id.dv.cells] true) (ys:=[y.id.dv.cells])
   (by simp) (by simp) nN A6 (by simp [show aP.length=32 by decide]) (by decide) (by omega) (by rw [len1];omega) rfl (by simp) (by simp) (by simp;omega)
  have hunot:∀b g l,u=.sl b g 32 0 l→H.length+6≤b:=by
   intro b g l h1
   rcases S1 with ⟨_,h2⟩ | ⟨_,b2,g2,h2,h3,h4⟩
   ·rw [h1] at h2;cases h2
   ·rw [h1] at h2;cases h2;exact h4
  have hkz:∀(b:Nat) (blk:bQ),Z1[b]?=some blk→b<H.length+6→Z2[b]?=some blk:=fun b blk h h2=>(hk' b blk h fun b2 g l h3=>by have:=hunot b2 g l h3;omega).1
  have hul:u2.leaf=true∧u2.cells=[u2]:=by rw [hu'];exact ⟨rfl,rfl⟩
  have hb3:H.length≤H.length+3:=by omega
  have u3:=hkz _ _ u1 (by omega)
  have bl3:=hkz _ _ bl1 (by omega)
  have l3:H.length+3<Z2.length:=(List.getElem?_eq_some_iff.1 u3).1
  obtain ⟨Z3,hZ3⟩:∃Z3,Z3=Z2.set (H.length+3) (.rows 1 0 [[u2]]):=⟨_,rfl⟩
  have bl4:Z3[H.length+5]?=some BB:=by rw [hZ3,List.getElem?_set_ne (by omega)];exact bl3
  have est:ao Tryz.prog H.length Z2 30 (.ptr (H.length+3) 0 1 0 0) u2=some Z3:=by
   rw [hZ3]
   simp [ao,u3,hul.1,hul.2,hb3]
  have hd0:aP.length=32:=by decide
  simp [q8,q9,q70,ur,y1,htd,aj,au,hd0,ea,est,bl4,hLB]
  refine ⟨rfl,fin bl4 (by rw [hZ3];simp;omega) (fun b blk h h1 h2=>by rw [hZ3,List.getElem?_set_ne (Ne.symm h1)];exact hkz b blk h h2) ⟨u2,by rw [hZ3,List.getElem?_set_self l3],?_⟩⟩
  rw [hu,List.map_append]
  exact hS'.keep fun b g rs hb h=>by rw [hZ3,List.getElem?_set_ne (by omega)];exact h
end Go.Proofs.Ev
