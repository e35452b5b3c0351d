/- Part 12 of the proof that quiltlaw38.BlameNames returns true: no statement of its own. -/
import Derived.Test.YtckbkhfaahpanaaGreatDoorN11
import Derived.Test.YtckbkhfaahpanaaGreatDoorN7
import Derived.Test.YtckbkhfaahpanaaGreatDoorN0
import Derived.Test.YtckbkhfaahpanaaGreatDoorN6
import Derived.Test.YtckbkhfaahpanaaGreatDoorN8
import Derived.Shelf.Small.In.Utf8
import Derived.Shelf.Small.Strs
import Derived.Lib.BytesEntry
set_option linter.all false
namespace Go.Proofs.Ev
open Go.Proofs
variable {C:Cfg}
structure Setting8 (C:Cfg):Prop extends Setting7 C where
 pure8:∀f,f∈[272,271,183,119,124,118,121,122,71,39,14,13,32,5,64,113]→C.pure f=true
theorem GrowX.freezeE {Z J L:Heap} {n k d sz:Nat} {v:AV} {rows:List (List AV)} (hg:GrowX n sz J v rows) (hn:n=Z.length) (hk:k≤Z.length) (hc:AV.closedss rows=true) (hz:rows=[]→v=.lst [] true) (hz2:v=.lst [] true∨∃b g l,v=.sl b g sz 0 l) :
 freezeA (Z++(J++L)) k (d+1) v=some (slAV (exK rows) rows):=by
 rcases hz2 with h | h
 ·have h0:rows=[]:=by
   rcases hg with ⟨h0,_⟩ | h4 | ⟨b,g,h4,_⟩
   ·exact h0
   ·rw [h] at h4;simpa using h4.symm
   ·rw [h] at h4;cases h4
  subst h0;rw [h];rfl
 ·have hne:rows≠[]:=by
   intro h0
   obtain ⟨b,g,l,h⟩:=h
   have:=hz h0
   rw [h] at this;cases this
  rw [hg.freezeS hn hk hc h]
  cases rows with
  | nil=>exact absurd rfl hne
  | cons a l=>rfl
theorem app_at {Z J H0:Heap} {n:Nat} (hn:n=Z.length) (hZ:H0.length≤Z.length) {v x:AV} {r ys:List AtV} (hg:GrowX n 172 J v (r.map AtV.cells)) (hx:tailRows (Z++J) (.slice 36) x=some (ys.map AtV.cells)) (hb:r.length+ys.length≤2^30) :
 ∃v' J',appendA Tryz.prog H0.length (Z++J) #[83,83] v.denil x=some (v',Z++J')∧GrowX n 172 J' v' ((r++ys).map AtV.cells)∧((ys≠[]∨∃b g l,v=.sl b g 172 0 l)→∃b g l,v'=.sl b g 172 0 l):=by
 obtain ⟨v',J',h1,h2,h3⟩:=GrowX.appendG (P:=Tryz.prog) (base:=H0.length) (Z:=Z) (J:=J) (e:=36) (e':=36) (ts:=#[83,83]) (ys:=ys.map AtV.cells) (x:=x) (v:=v) (rows:=r.map AtV.cells) (by simp) (by simp) sz36 by36 (by simp) (by decide) hn hZ hg (by simp) hx (by simp) (by simp;omega)
 exact ⟨v',J',h1,by simpa using h2,by simpa using h3⟩
theorem app_id {Z J H0:Heap} {n:Nat} (hn:n=Z.length) (hZ:H0.length≤Z.length) {v x:AV} {r ys:List IdV} (hg:GrowX n 33 J v (r.map IdV.cells)) (hx:tailRows (Z++J) (.slice 27) x=some (ys.map IdV.cells)) (hb:r.length+ys.length≤2^30) :
 ∃v' J',appendA Tryz.prog H0.length (Z++J) #[34,34] v.denil x=some (v',Z++J')∧GrowX n 33 J' v' ((r++ys).map IdV.cells)∧((ys≠[]∨∃b g l,v=.sl b g 33 0 l)→∃b g l,v'=.sl b g 33 0 l):=by
 obtain ⟨v',J',h1,h2,h3⟩:=GrowX.appendG (P:=Tryz.prog) (base:=H0.length) (Z:=Z) (J:=J) (e:=27) (e':=27) (ts:=#[34,34]) (ys:=ys.map IdV.cells) (x:=x) (v:=v) (rows:=r.map IdV.cells) (by simp) (by simp) sz27 by27 (by simp) (by decide) hn hZ hg (by simp) hx (by simp) (by simp;omega)
 exact ⟨v',J',h1,by simpa using h2,by simpa using h3⟩
def posI (l:List IdV) (d:IdV):Nat:=(l.takeWhile fun x=>decide (cmpI x d<0)).length
def insR (a:SK×List IdV) (d:IdV):SK×List IdV:=if (a.2[posI a.2 d]?).map (sameId · d)=some true then a else (.loose,a.2.take (posI a.2 d)++d::a.2.drop (posI a.2 d))
theorem posI_le (l:List IdV) (d:IdV):posI l d≤l.length:=by
 unfold posI;exact (List.takeWhile_sublist _).length_le
theorem posI_lt {l:List IdV} {d:IdV}:∀{i:Nat} (_:i<posI l d) (hi:i<l.length),cmpI l[i] d<0:=by
 induction l with
 | nil=>intro i h hi;simp at hi
 | cons x l ih =>
  intro i h hi
  unfold posI at h
  rw [List.takeWhile_cons] at h
  split at h
  ·rename_i hx
   cases i with
   | zero=>simpa using hx
   | succ i=>exact ih (by unfold posI;simpa using h) (by simpa using hi)
  ·simp at h
theorem posI_at {l:List IdV} {d:IdV}:∀(hi:posI l d<l.length),¬cmpI l[posI l d] d<0:=by
 induction l with
 | nil=>intro hi;simp at hi
 | cons x l ih =>
  intro hi
  by_cases hx:cmpI x d<0
  ·have e:posI (x::l) d=posI l d+1:=by unfold posI;rw [List.takeWhile_cons,if_pos (by simpa using hx)];rfl
   have hi':posI l d<l.length:=by rw [e] at hi;simpa using hi
   have:=ih hi'
   simp only [e,List.getElem_cons_succ];exact this
  ·have e:posI (x::l) d=0:=by unfold posI;rw [List.takeWhile_cons,if_neg (by simpa using hx)];rfl
   simp only [e,List.getElem_cons_zero];exact hx
theorem insR_len (a:SK×List IdV) (d:IdV):(insR a d).2.length≤a.2.length+1:=by
 unfold insR;split
 ·omega
 ·have:=posI_le a.2 d;simp;omega
theorem eq_idV (S:Setting C) (a b:IdV):binA Tryz.prog C .eql 27 (.agg a.cells) (.agg b.cells)=some (.bool (sameId a b)):=eq_id S a b
set_option maxHeartbeats 2000000 in
theorem ret_insert (S:Setting8 C) (a:SK×List IdV) (d:IdV) (hl:a.2.length≤2^20):Ret Tryz.prog C 272 [] [slAV a.1 (a.2.map IdV.cells),.agg d.cells] (slAV (insR a d).1 ((insR a d).2.map IdV.cells)):=by
 obtain ⟨k,l⟩:=a
 simp only at hl ⊢
 refine ret_pure (S.pure8 _ (by decide)) fun H=>func_rule Tryz.func272 rfl (S.prim _ (by decide)) (by simp) (by kernel_rfl) ?_
 unfold Tryz.f272
 have e:=eq_idV S.toSetting
 have c:=fun a b=>(ret_cmpI S.toSetting a b).eq
 have hp:=posI_le l d
 simp [argS]
 refine loop_count (posI l d) (fun i s H'=>H'=H++[.rows 33 0 [d.cells]]∧s 0=slAV k (l.map IdV.cells)∧s 3=.ptr H.length 0 33 0 0∧s 5=.int .i64 i) ?_ ?_
 ·exact ⟨rfl,rfl,rfl,rfl⟩
 rintro i s H' ⟨rfl,e0,e3,e5⟩ hi
 by_cases h:i<posI l d
 ·have hil:i<l.length:=by omega
  have hc:=posI_lt h hil
  simp [e0,e3,e5,guardV,hil,c,hc,wrap_succ h (by omega),h]
 have h':i=posI l d:=by omega
 subst h'
 by_cases heq:(l[posI l d]?).map (sameId · d)=some true
 ·have hw:insR (k,l) d=(k,l):=by unfold insR;rw [if_pos heq]
  rw [hw]
  obtain ⟨y,hy,hyd⟩:=Option.map_eq_some_iff.1 heq
  obtain ⟨hlt,hy⟩:=List.getElem?_eq_some_iff.1 hy
  have hc:=posI_at hlt
  have heq:sameId l[posI l d] d=true:=by rw [hy];exact hyd
  generalize posI l d=j at *
  simp [e0,e3,e5,guardV,hlt,c,hc,e,heq]
  exact freeze_closed (slAV_closed (closedss_map IdV.closed _))
 ·have hw:insR (k,l) d=(.loose,l.take (posI l d)++d::l.drop (posI l d)):=by unfold insR;rw [if_neg heq]
  rw [hw]
  have hne:∀h:posI l d<l.length,sameId l[posI l d] d=false:=by
   intro h
   cases hh:sameId l[posI l d] d with
   | false=>rfl
   | true=>exact absurd (by rw [List.getElem?_eq_getElem h];simp [hh]) heq
  have hca:=@posI_at l d
  clear hw heq
  generalize posI l d=j at *
  obtain ⟨x1,hx1⟩:=sl_take (P:=Tryz.prog) (t:=34) (e:=27) (k:=k) (rows:=l.map IdV.cells) (j:=j) (K:=.i64) (by simp) sz27 (by simp) (by simpa using hp)
  obtain ⟨x2,hx2⟩:=sl_drop (P:=Tryz.prog) (t:=34) (e:=27) (k:=k) (rows:=l.map IdV.cells) (j:=j) (K:=.i64) (by simp) sz27 (by simp) (by simpa using hp)
  have e1:(n:Nat)→n=(H++[Blk.rows 33 0 [d.cells]]).length→GrowX n 33 [] (.lst [] true) (([]:List IdV).map IdV.cells):=fun _ _=>.lst []
  obtain ⟨v1,J1,ha1,hg1,_⟩:=app_id (H0:=H) (Z:=H++[.rows 33 0 [d.cells]]) (J:=[]) (x:=.lst ((l.take j).map IdV.cells) x1) (ys:=l.take j) rfl (by simp) (e1 _ rfl) rfl (by simp;omega)
  obtain ⟨v2,J2,ha2,hg2,hs2⟩:=app_id (H0:=H) (Z:=H++[.rows 33 0 [d.cells]]) (x:=.lst [d.cells] true) (ys:=[d]) rfl (by simp) hg1 rfl (by simp;omega)
  obtain ⟨v3,J3,ha3,hg3,hs3⟩:=app_id (H0:=H) (Z:=H++[.rows 33 0 [d.cells]]) (x:=.lst ((l.drop j).map IdV.cells) x2) (ys:=l.drop j) rfl (by simp) hg2 rfl (by simp;omega)
  have hs3:=hs3 (.inr (hs2 (.inl (by simp))))
  have hf:=hg3.freezeS (Z:=H++[.rows 33 0 [d.cells]]) (L:=[]) (k:=H.length) (d:=2) rfl (by simp) (closedss_map IdV.closed _) hs3
  simp only [List.append_assoc,List.cons_append,List.nil_append,List.append_nil,List.map_take,List.map_drop] at ha1 ha2 ha3 hf
  rw [denil_lst] at ha1
  by_cases hlt:j<l.length
  ·have hc:=hca hlt
   have hn:=hne hlt
   simp [e0,e3,e5,guardV,hlt,c,hc,e,hn,buildSliceA,fillRows]
   rw [hx1]
   simp [ha1,ha2,ha3,hx2,e0,e3,e5,buildSliceA,fillRows]
   simpa using hf
  ·simp [e0,e3,e5,guardV,hlt,buildSliceA,fillRows]
   rw [hx1]
   simp [ha1,ha2,ha3,hx2,e0,e3,e5,buildSliceA,fillRows]
   simpa using hf
def wholeV (x:IdV) (d:DigV):IdV:=if zeroD x.d&&decide (0≤x.n) then ⟨d.d,x.n,d.h,d.b⟩ else x
theorem ret_whole (S:Setting8 C) (x:IdV) (d:DigV):Ret Tryz.prog C 271 [] [.agg x.cells,.agg d.cells] (.agg (wholeV x d).cells):=by
 refine ret_pure (S.pure8 _ (by decide)) fun H=>func_rule Tryz.func271 rfl (S.prim _ (by decide)) (by simp) (by kernel_rfl) ?_
 unfold Tryz.f271
 have e1:=(ret_zero S.toSetting x.d x.h).eq
 cases hz:(zeroD x.d&&decide (0≤x.n)) with
 | true =>
  have hw:wholeV x d=⟨d.d,x.n,d.h,d.b⟩:=by unfold wholeV;rw [if_pos hz]
  rw [hw]
  simp only [Bool.and_eq_true,decide_eq_true_eq] at hz
  have hd:(IdV.mk d.d x.n d.h d.b).cells=d.cells++[.int .i64 x.n]:=rfl
  simp [argS,e1,hz,guardV,storeA,hd]
  rw [←hd]
  generalize IdV.mk d.d x.n d.h d.b=y
  simp
  exact ⟨fun v hv=>List.all_eq_true.1 y.leafs v hv,freeze_closed (v:=.agg y.cells) (IdV.closed y)⟩
 | false =>
  have hw:wholeV x d=x:=by unfold wholeV;rw [if_neg (by simp [hz])]
  rw [hw]
  simp +contextual [-Bool.not_and,-Bool.not_or,argS,guardV,e1,hz,storeA]
  exact freeze_closed (v:=.agg x.cells) (IdV.closed x)
def overR (l:List IdV) (d:DigV):SK×List IdV:=l.foldl (fun a x=>insR a (wholeV x d)) (.exact,[])
theorem overR_len (d:DigV):∀(l:List IdV) (a:SK×List IdV),(l.foldl (fun a x=>insR a (wholeV x d)) a).2.length≤a.2.length+l.length
 | [],a=>by simp
 | x::l,a=>by have:=overR_len d l (insR a (wholeV x d));have:=insR_len a (wholeV x d);simp only [List.foldl_cons,List.length_cons];omega
def at1 (d:DigV) (x:AtV):AtV:={ x with id:=⟨d.d,x.id.n,d.h,d.b⟩ }
def at2 (d:DigV) (x:AtV):AtV:=if x.kind≠7 then { x with file:=wholeV x.file d } else x
def at3 (d:DigV) (x:AtV):AtV:=if x.kind=2 then { x with parent:=wholeV x.parent d } else x
def at4 (d:DigV) (x:AtV):AtV:=if x.kind=6 then { x with frm:=wholeV x.frm d,to:=wholeV x.to d } else x
def atR (d:DigV) (x:AtV):AtV:=let y:=at4 d (at3 d (at2 d (at1 d x)));{ y with over:=(overR x.over d).2,overK:=(overR x.over d).1 }
theorem AtV.idD (x:AtV) (d:DigV):d.cells++x.cells.drop 32=AtV.cells (at1 d x):=by
 have hR:(at1 d x).cells.drop 33=x.cells.drop 33:=((at1 d x).dr33).trans x.dr33.symm
 have h1:x.cells=x.id.cells++x.cells.drop 33:=(List.take_append_drop 33 x.cells).symm.trans (congrArg (·++x.cells.drop 33) x.tk33)
 have h2:(at1 d x).cells=(at1 d x).id.cells++(at1 d x).cells.drop 33:=(List.take_append_drop 33 _).symm.trans (congrArg (·++(at1 d x).cells.drop 33) (at1 d x).tk33)
 rw [h2,hR]
 generalize x.cells.drop 33=R at h1
 rw [h1,List.drop_append_of_le_length (by simp),x.id.num]
 simp [at1,IdV.cells,DigV.cells]
set_option maxRecDepth 100000 in
set_option maxHeartbeats 2000000 in
theorem ret_Atoms16 (S:Setting8 C) (p:PatchV) (hp:p.Ok) (hp2:p.Ok2) (hn:(checkL p).length≤2^20) (ho:∀x∈checkL p,x.over.length≤2^10) :
 Ret Tryz.prog C 183 [] [.agg p.cells] (.tup [slAV (if EncodeE p=0 then exK (checkL p) else .exact) ((if EncodeE p=0 then (checkL p).map (atR ⟨IdD p,IdD_len p,IdD_byt p⟩) else []).map AtV.cells),.int .i64 (EncodeE p)]):=by
 refine ret_pure (S.pure8 _ (by decide)) fun H=>func_rule Tryz.func183 rfl (S.prim _ (by decide)) (by simp) (by kernel_rfl) ?_
 unfold Tryz.f183
 have e1:∀base H K,CallW Tryz.prog C base (.fn 33 []) [.agg p.cells] H K=K (.tup [.agg (DigV.mk (IdD p) (IdD_len p) (IdD_byt p)).cells,.int .i64 (EncodeE p)]) H:=(ret_Id16 S.toSetting6 p hp hp2).eq
 have e2:=(ret_check S.toSetting3 p hp).eq
 generalize DigV.mk (IdD p) (IdD_len p) (IdD_byt p)=d at *
 by_cases hE:EncodeE p=0
 ·rw [if_pos hE,if_pos hE,hE]
  simp [argS,e1,e2,hE,checkR,storeA,buildSliceA,fillRows,show digest0.length=32 from rfl]
  refine loop_count (checkL p).length (fun i s H'=>∃J,H'=H++.rows 5 0 [p.cells]::.rows 32 0 [d.cells]::J∧s 4=.ptr (H.length+1) 0 32 0 0∧s 6=slAV (checkK p) ((checkL p).map AtV.cells)∧s 9=.int .i64 i∧
   GrowX (H.length+2) 172 J (s 8) ((((checkL p).take i).map (atR d)).map AtV.cells)∧(i=0→s 8=.lst [] true)∧(s 8=.lst [] true∨∃b g l,s 8=.sl b g 172 0 l)) ?_ ?_
  ·rw [List.drop_of_length_le (by simp [digest0]),List.append_nil]
   exact ⟨[],rfl,rfl,rfl,rfl,.lst [],fun _=>rfl,.inl rfl⟩
  rintro i s H' ⟨J,rfl,e4,e6,e9,hg,hz,hz2⟩ hi
  by_cases h:i<(checkL p).length
  ·refine cut (fun s' H'=>H'=H++.rows 5 0 [p.cells]::.rows 32 0 [d.cells]::J∧s' 4=.ptr (H.length+1) 0 32 0 0∧s' 6=slAV (checkK p) ((checkL p).map AtV.cells)∧s' 9=.int .i64 i∧s' 8=s 8) ?_ ?_
   ·simp [e4,e6,e9,h]
   rintro s1 H1 ⟨rfl,e4',e6',e9',e8'⟩
   refine cut (fun s' H'=>∃J,H'=H++.rows 5 0 [p.cells]::.rows 32 0 [d.cells]::J∧s' 4=.ptr (H.length+1) 0 32 0 0∧s' 6=slAV (checkK p) ((checkL p).map AtV.cells)∧s' 9=.int .i64 i∧
    GrowX (H.length+2) 172 J (s' 8) ((((checkL p).take (i+1)).map (atR d)).map AtV.cells)∧∃b g l,s' 8=.sl b g 172 0 l) ?_ ?_
   ·rw [wp_block]
    refine cut (fun s' H'=>H'=H++.rows 5 0 [p.cells]::.rows 32 0 [d.cells]::(J++[.rows 172 0 [((checkL p)[i]).cells]])∧s' 4=.ptr (H.length+1) 0 32 0 0∧s' 6=slAV (checkK p) ((checkL p).map AtV.cells)∧s' 9=.int .i64 i∧s' 8=s 8∧s' 10=.ptr (H.length+(J.length+1+1)) 0 172 0 0) ?_ ?_
    ·simp [e4',e6',e9',e8',h,storeA]
    rintro s1 H1 ⟨rfl,e4,e6,e9,e8,e10⟩
    have hat:∀y:AtV,∀s1:Sl,True:=fun _ _=>trivial
    refine cut (fun s' H'=>H'=H++.rows 5 0 [p.cells]::.rows 32 0 [d.cells]::(J++[.rows 172 0 [(at1 d (checkL p)[i]).cells]])∧s' 4=.ptr (H.length+1) 0 32 0 0∧s' 6=slAV (checkK p) ((checkL p).map AtV.cells)∧s' 9=.int .i64 i∧s' 8=s 8∧s' 10=.ptr (H.length+(J.length+1+1)) 0 172 0 0) ?_ ?_
    ·simp [e4,e6,e9,e8,e10,storeA]
     exact AtV.idD _ d
    have cw:=fun x=>(ret_whole S x d).eq
    have ci:=fun a x ha=>(ret_insert S a x ha).eq
    have hov:=ho (checkL p)[i] (List.getElem_mem h)
    have hover:(at4 d (at3 d (at2 d (at1 d (checkL p)[i])))).over=(checkL p)[i].over:=by
     unfold at4 at3 at2 at1
     repeat' split
     all_goals rfl
    have hR:atR d (checkL p)[i]={ at4 d (at3 d (at2 d (at1 d (checkL p)[i]))) with over:=(overR (checkL p)[i].over d).2,overK:=(overR (checkL p)[i].over d).1 }:=rfl
    have et:((checkL p).take (i+1)).map (atR d)=((checkL p).take i).map (atR d)++[atR d (checkL p)[i]]:=by
     rw [List.take_add_one,List.getElem?_eq_getElem h,List.map_append];rfl
    generalize at1 d (checkL p)[i]=y1 at *
    rintro s1 H1 ⟨rfl,e4,e6,e9,e8,e10⟩
    refine cut (fun s' H'=>H'=H++.rows 5 0 [p.cells]::.rows 32 0 [d.cells]::(J++[.rows 172 0 [(at2 d y1).cells]])∧s' 4=.ptr (H.length+1) 0 32 0 0∧s' 6=slAV (checkK p) ((checkL p).map AtV.cells)∧s' 9=.int .i64 i∧s' 8=s 8∧s' 10=.ptr (H.length+(J.length+1+1)) 0 172 0 0) ?_ ?_
    ·by_cases k7:y1.kind=7
     ·simp [e4,e6,e9,e8,e10,storeA,k7,at2]
     ·simp [e4,e6,e9,e8,e10,storeA,k7,at2,cw]
    generalize at2 d y1=y2 at *
    rintro s1 H1 ⟨rfl,e4,e6,e9,e8,e10⟩
    refine cut (fun s' H'=>H'=H++.rows 5 0 [p.cells]::.rows 32 0 [d.cells]::(J++[.rows 172 0 [(at3 d y2).cells]])∧s' 4=.ptr (H.length+1) 0 32 0 0∧s' 6=slAV (checkK p) ((checkL p).map AtV.cells)∧s' 9=.int .i64 i∧s' 8=s 8∧s' 10=.ptr (H.length+(J.length+1+1)) 0 172 0 0) ?_ ?_
    ·by_cases k2:y2.kind=2
     ·simp [e4,e6,e9,e8,e10,storeA,k2,at3,cw]
     ·simp [e4,e6,e9,e8,e10,storeA,k2,at3]
    generalize at3 d y2=y3 at *
    rintro s1 H1 ⟨rfl,e4,e6,e9,e8,e10⟩
    refine cut (fun s' H'=>H'=H++.rows 5 0 [p.cells]::.rows 32 0 [d.cells]::(J++[.rows 172 0 [(at4 d y3).cells]])∧s' 4=.ptr (H.length+1) 0 32 0 0∧s' 6=slAV (checkK p) ((checkL p).map AtV.cells)∧s' 9=.int .i64 i∧s' 8=s 8∧s' 10=.ptr (H.length+(J.length+1+1)) 0 172 0 0) ?_ ?_
    ·by_cases k6:y3.kind=6
     ·simp [e4,e6,e9,e8,e10,storeA,k6,at4,cw]
      rw [kOpsU_turn (h:=by kernel_rfl)]
      simp [e4,e6,e9,e8,e10,storeA,k6,at4,cw]
      rw [kOpsU_turn (h:=by kernel_rfl)]
      simp [e4,e6,e9,e8,e10,storeA,k6,at4,cw]
     ·simp [e4,e6,e9,e8,e10,storeA,k6,at4]
    generalize at4 d y3=y4 at *
    rintro s1 H1 ⟨rfl,e4,e6,e9,e8,e10⟩
    refine cut (fun s' H'=>H'=H++.rows 5 0 [p.cells]::.rows 32 0 [d.cells]::(J++[.rows 172 0 [(y4).cells]])∧s' 4=.ptr (H.length+1) 0 32 0 0∧s' 6=slAV (checkK p) ((checkL p).map AtV.cells)∧s' 9=.int .i64 i∧s' 8=s 8∧s' 10=.ptr (H.length+(J.length+1+1)) 0 172 0 0∧s' 11=.lst [] true) ?_ ?_
    ·simp [e4,e6,e9,e8,e10,buildSliceA,fillRows]
    rintro s1 H1 ⟨rfl,e4,e6,e9,e8,e10,e11⟩
    refine cut (fun s' H'=>H'=H++.rows 5 0 [p.cells]::.rows 32 0 [d.cells]::(J++[.rows 172 0 [(y4).cells]])∧s' 4=.ptr (H.length+1) 0 32 0 0∧s' 6=slAV (checkK p) ((checkL p).map AtV.cells)∧s' 9=.int .i64 i∧s' 8=s 8∧s' 10=.ptr (H.length+(J.length+1+1)) 0 172 0 0∧s' 11=slAV (overR (checkL p)[i].over d).1 ((overR (checkL p)[i].over d).2.map IdV.cells)) ?_ ?_
    ·simp [e4,e6,e9,e8,e10,e11]
     refine loop_count y4.over.length (fun j s' H'=>H'=H++.rows 5 0 [p.cells]::.rows 32 0 [d.cells]::(J++[.rows 172 0 [(y4).cells]])∧s' 4=.ptr (H.length+1) 0 32 0 0∧s' 6=slAV (checkK p) ((checkL p).map AtV.cells)∧s' 9=.int .i64 i∧s' 8=s 8∧s' 10=.ptr (H.length+(J.length+1+1)) 0 172 0 0∧s' 12=.int .i64 j∧s' 11=slAV ((y4.over.take j).foldl (fun a x=>insR a (wholeV x d)) (.exact,[])).1 (((y4.over.take j).foldl (fun a x=>insR a (wholeV x d)) (.exact,[])).2.map IdV.cells)) ?_ ?_
     ·exact ⟨rfl,e4,e6,e9,e8,e10,rfl,e11⟩
     clear e4 e6 e9 e8 e10 e11
     rintro j s1 H1 ⟨rfl,e4,e6,e9,e8,e10,e12,e11⟩ hj
     rw [←hover] at hov
     by_cases hjl:j<y4.over.length
     ·have hfl:=overR_len d (y4.over.take j) (.exact,[])
      have hft:=foldl_take (f:=fun (a:SK×List IdV) x=>insR a (wholeV x d)) (a:=(.exact,[])) hjl
      have hcj:=ci ((y4.over.take j).foldl (fun a x=>insR a (wholeV x d)) (.exact,[])) (wholeV y4.over[j] d) (by simp at hfl;omega)
      rw [←hft] at hcj
      simp [e4,e6,e9,e8,e10,e12,e11,hjl,cw,hcj,wrap_succ hjl (by omega)]
     ·have hj':j=y4.over.length:=by omega
      subst hj'
      rw [List.take_length,hover] at e11
      simp [e4,e6,e9,e8,e10,e12,e11]
      rfl
    rintro s1 H1 ⟨rfl,e4,e6,e9,e8,e10,e11⟩
    have hy:AtV.cells { y4 with over:=(overR (checkL p)[i].over d).2,overK:=(overR (checkL p)[i].over d).1 }=(atR d (checkL p)[i]).cells:=by rw [hR]
    have hln:(checkL p).length≤2^20:=hn
    obtain ⟨v',J',ha,hg',hs'⟩:=app_at (H0:=H) (Z:=H++[.rows 5 0 [p.cells],.rows 32 0 [d.cells]]) (n:=H.length+2) (x:=.lst [(atR d (checkL p)[i]).cells] true) (ys:=[atR d (checkL p)[i]]) (by simp) (by simp) (hg.app [.rows 172 0 [(atR d (checkL p)[i]).cells]]) rfl (by simp;omega)
    rw [←et] at hg'
    simp only [List.append_assoc,List.cons_append,List.nil_append] at ha
    simp [e4,e6,e9,e8,e10,e11,storeA,hy,buildSliceA,fillRows,ha]
    exact ⟨by simpa using hg',hs' (.inl (by simp))⟩
   ·rintro s1 H1 ⟨J,rfl,e4,e6,e9,hg,hs⟩
    simp [e4,e6,e9,h,wrap_succ h (by omega)]
    exact ⟨by simpa using hg,.inr hs⟩
  ·have h':i=(checkL p).length:=by omega
   subst h'
   rw [List.take_length] at hg
   simp [e4,e6,e9]
   have hf:=hg.freezeE (Z:=H++[.rows 5 0 [p.cells],.rows 32 0 [d.cells]]) (L:=[]) (k:=H.length) (d:=1) (by simp) (by simp) (closedss_map AtV.closed _) (fun h=>hz (by simpa using h)) hz2
   simp only [List.append_assoc,List.cons_append,List.nil_append,List.append_nil] at hf
   refine freeze_two ?_ (by simp)
   rw [hf]
   have hk:exK (((checkL p).map (atR d)).map AtV.cells)=exK (checkL p):=by unfold exK;cases checkL p<;>rfl
   rw [hk,List.map_map]
 ·rw [if_neg hE,if_neg hE]
  simp [argS,e1,e2,hE,show (EncodeE p != 0)=true by simpa using hE,storeA,buildSliceA,fillRows,show digest0.length=32 from rfl]
  refine freeze_two ?_ (by simp)
  rfl
end Go.Proofs.Ev
namespace Go.Proofs.Ev
open Go.Proofs
variable {C:Cfg}
def sumL (l:List (List UInt8)):Nat:=(l.map List.length).sum
def great4 (l:List (List UInt8)):Bool:=decide (40<l.length)||decide (3000<sumL l)
theorem sum_take {α:Type} {f:α→Nat} {l:List α} {i:Nat} (h:i<l.length):((l.take (i+1)).map f).sum=((l.take i).map f).sum+f l[i]:=by
 have e:l.take (i+1)=l.take i++[l[i]]:=by rw [List.take_add_one,List.getElem?_eq_getElem h];rfl
 rw [e,List.map_append,List.sum_append];simp
theorem sum_le {α:Type} {f:α→Nat} {b:Nat}:∀{l:List α},(∀x∈l,f x≤b)→(l.map f).sum≤b*l.length
 | [],_=>by simp
 | x::l,h=>by
  have:=sum_le (l:=l) fun y hy=>h y (by simp [hy])
  have:=h x (by simp)
  simp only [List.map_cons,List.sum_cons,List.length_cons,Nat.mul_add];omega
theorem ret_great4 (S:Setting8 C) (l:List (List UInt8)) (k:SK) (h1:l.length≤2^20) (h2:∀x∈l,x.length≤2^20):Ret Tryz.prog C 113 [] [slAV k (l.map strC)] (.bool (great4 l)):=by
 refine ret_pure (S.pure8 _ (by decide)) fun H=>func_rule Tryz.func113 rfl (S.prim _ (by decide)) (by simp) (by kernel_rfl) ?_
 unfold Tryz.f113
 simp [argS]
 refine loop_count l.length (fun i s H'=>H'=H∧s 0=slAV k (l.map strC)∧s 4=.int .i64 i∧s 3=.int .i64 (((l.take i).map List.length).sum:Nat)) ?_ ?_
 ·exact ⟨rfl,rfl,rfl,rfl⟩
 rintro i s H' ⟨rfl,e0,e4,e3⟩ hi
 have hs:=sum_le (l:=l.take i) (f:=List.length) fun x hx=>h2 x (List.mem_of_mem_take hx)
 have hsl:(l.take i).length≤2^20:=by simp;omega
 by_cases h:i<l.length
 ·have hli:=h2 _ (List.getElem_mem h)
  have hst:=sum_take (f:=List.length) h
  have w1:IntKind.i64.wrap (((((l.take i).map List.length).sum:Nat):Int)+(l[i].length:Int))=((((l.take (i+1)).map List.length).sum:Nat):Int):=by
   rw [hst,wrap_in (by omega) (by omega)];omega
  generalize ((l.take i).map List.length).sum=n at *
  generalize hn2:((l.take (i+1)).map List.length).sum=n2 at *
  simp [e0,e4,e3,h,strC,w1,wrap_succ h (by omega)]
  rw [←List.map_take,hn2]
 ·have h':i=l.length:=by omega
  subst h'
  rw [List.take_length] at e3
  have hg:great4 l=(decide (40<(l.length:Int))||decide (3000<(((l.map List.length).sum:Nat):Int))):=by
   unfold great4 sumL
   congr 1<;>simp<;>omega
  rw [hg]
  generalize (l.map List.length).sum=n at *
  by_cases h40:(40:Int)<l.length
  ·simp [e0,e4,e3,guardV,h40]
  ·simp [e0,e4,e3,guardV,h40]
structure ChV.Sz (c:ChV):Prop where
 name:c.name.length≤2^20
 data:c.data.length≤2^20
 linesN:c.lines.length≤2^20
 lines:∀x∈c.lines,x.length≤2^20
 over:c.over.length≤2^20
structure PatchV.Sz (p:PatchV):Prop where
 author:p.author.length≤2^20
 message:p.message.length≤2^20
 deps:p.deps.length≤2^20
 changesN:p.changes.length≤2^20
 changes:∀c∈p.changes,c.Sz
def bigC (c:ChV):Bool:=great4 c.lines||decide (40<c.over.length)
def sumP (p:PatchV):Nat:=p.author.length+p.message.length+(p.changes.map fun c=>c.name.length+c.data.length).sum
def great16 (p:PatchV):Bool:=p.changes.any bigC||(decide (3000<sumP p)||decide (20<p.deps.length)||decide (20<p.changes.length))
theorem any_drop {α:Type} {f:α→Bool} {l:List α} {i:Nat} (h:i<l.length):(l.drop i).any f=(f l[i]||(l.drop (i+1)).any f):=by
 rw [List.drop_eq_getElem_cons h];rfl
set_option maxHeartbeats 2000000 in
theorem ret_great16 (S:Setting8 C) (p:PatchV) (hp:p.Sz):Ret Tryz.prog C 64 [] [.agg p.cells] (.bool (great16 p)):=by
 refine ret_pure (S.pure8 _ (by decide)) fun H=>func_rule Tryz.func64 rfl (S.prim _ (by decide)) (by simp) (by kernel_rfl) ?_
 unfold Tryz.f64
 have ha:=hp.author
 have hm:=hp.message
 have hn:=hp.changesN
 have hsum:=sum_le (l:=p.changes) (f:=fun c=>c.name.length+c.data.length) (b:=2^21) fun c hc=>by have:=(hp.changes c hc).name;have:=(hp.changes c hc).data;omega
 have w0:IntKind.i64.wrap ((p.author.length:Int)+p.message.length)=((p.author.length+p.message.length:Nat):Int):=by rw [wrap_in (by omega) (by omega)];omega
 simp [argS,w0]
 refine loop_count p.changes.length (fun i s H'=>∃J,H'=H++.rows 5 0 [p.cells]::J∧s 1=.ptr H.length 0 5 0 0∧s 4=.int .i64 i∧s 3=.int .i64 (p.author.length+p.message.length+((p.changes.take i).map fun c=>c.name.length+c.data.length).sum:Nat)∧p.changes.any bigC=(p.changes.drop i).any bigC) ?_ ?_
 ·exact ⟨[],rfl,rfl,rfl,by simp,rfl⟩
 rintro i s H' ⟨J,rfl,e1,e4,e3,hany⟩ hi
 by_cases h:i<p.changes.length
 ·have hst:=sum_take (f:=fun c:ChV=>c.name.length+c.data.length) h
  have hs:=sum_le (l:=p.changes.take i) (f:=fun c=>c.name.length+c.data.length) (b:=2^21) fun c hc=>by have:=(hp.changes c (List.mem_of_mem_take hc)).name;have:=(hp.changes c (List.mem_of_mem_take hc)).data;omega
  have hsl:(p.changes.take i).length≤2^20:=by simp;omega
  have hc:=hp.changes _ (List.getElem_mem h)
  have hc1:=hc.name
  have hc2:=hc.data
  rw [any_drop h] at hany
  have g4:=(ret_great4 S p.changes[i].lines p.changes[i].linesK hc.linesN hc.lines).eq
  have hmt:∀j,(p.changes.map fun c=>c.name.length+c.data.length).take j=(p.changes.take j).map fun c=>c.name.length+c.data.length:=fun j=>List.map_take.symm
  generalize hq:((p.changes.take i).map fun c=>c.name.length+c.data.length).sum=q at *
  generalize hq2:((p.changes.take (i+1)).map fun c=>c.name.length+c.data.length).sum=q2 at *
  have w1:IntKind.i64.wrap (((p.author.length+p.message.length+q:Nat):Int)+(p.changes[i].name.length:Int))=((p.author.length+p.message.length+q+p.changes[i].name.length:Nat):Int):=by rw [wrap_in (by omega) (by omega)];omega
  have w2:IntKind.i64.wrap (((p.author.length+p.message.length+q+p.changes[i].name.length:Nat):Int)+(p.changes[i].data.length:Int))=((p.author.length+p.message.length+q2:Nat):Int):=by rw [wrap_in (by omega) (by omega)];omega
  generalize hA:p.author.length+p.message.length+q=A at *
  generalize hB:A+p.changes[i].name.length=B at *
  generalize hCc:p.author.length+p.message.length+q2=Cc at *
  cases hbg:great4 p.changes[i].lines with
  | true =>
   have hgr:great16 p=true:=by unfold great16;rw [hany];simp [bigC,hbg]
   simp [e1,e4,e3,h,guardV,storeA,g4,hbg,hgr]
  | false =>
   by_cases hov:40<p.changes[i].over.length
   ·have hgr:great16 p=true:=by unfold great16;rw [hany];simp [bigC,hov]
    simp [e1,e4,e3,h,guardV,storeA,g4,hbg,hgr,hov,show (40:Int)<p.changes[i].over.length by omega]
   ·have hbc:bigC p.changes[i]=false:=by simp [bigC,hbg];omega
    have hany':p.changes.any bigC=(p.changes.drop (i+1)).any bigC:=by rw [hany,hbc];rfl
    simp [e1,e4,e3,h,guardV,storeA,g4,hbg,hov,show ¬(40:Int)<p.changes[i].over.length by omega,w1,w2,wrap_succ h (by omega)]
    refine ⟨?_,hany'⟩
    rw [hmt,hq2];omega
 ·have h':i=p.changes.length:=by omega
  subst h'
  rw [List.take_length] at e3
  have hg:great16 p=(decide (3000<((sumP p:Nat):Int))||decide (20<(p.deps.length:Int))||decide (20<(p.changes.length:Int))):=by
   unfold great16
   rw [hany,List.drop_length]
   simp only [List.any_nil,Bool.false_or]
   congr 1
   ·congr 1<;>simp<;>omega
   ·simp;omega
  rw [hg]
  have e3:s 3=.int .i64 ((sumP p:Nat):Int):=e3
  generalize sumP p=n at *
  by_cases h3:(3000:Int)<n
  ·simp [e1,e4,e3,guardV,h3]
  ·by_cases h4:(20:Int)<p.deps.length
   ·simp [e1,e4,e3,guardV,h3,h4]
   ·simp [e1,e4,e3,guardV,h3,h4]
def cntC (c:ChV):Nat:=1+c.lines.length+c.over.length
def cntP (p:PatchV):Nat:=(p.changes.map cntC).sum
def heavyB (s:List StoredV):Bool:=(s.take 9).any (fun x=>great16 x.patch)||(decide (8<s.length)||decide (300<((s.take 9).map fun x=>cntP x.patch).sum))
structure SetSz (s:List StoredV):Prop where
 n:s.length≤2^20
 p:∀x∈s,x.patch.Sz
theorem cntP_le {p:PatchV} (hp:p.Sz):cntP p≤2^42:=by
 have h:=sum_le (l:=p.changes) (f:=cntC) (b:=2^22) fun c hc=>by have:=(hp.changes c hc).linesN;have:=(hp.changes c hc).over;unfold cntC;omega
 have:=hp.changesN
 unfold cntP;omega
set_option maxRecDepth 100000 in
set_option maxHeartbeats 2000000 in
theorem ret_heavy (S:Setting8 C) (l:List StoredV) (k:SK) (hl:SetSz l):Ret Tryz.prog C 32 [] [slAV k (l.map StoredV.cells),.int .i64 8] (.bool (heavyB l)):=by
 refine ret_pure (S.pure8 _ (by decide)) fun H=>func_rule Tryz.func32 rfl (S.prim _ (by decide)) (by simp) (by kernel_rfl) ?_
 unfold Tryz.f32
 have hn:=hl.n
 have hlen9:(l.take 9).length=min 9 l.length:=by simp
 simp [argS]
 refine loop_count (l.take 9).length (fun i s H'=>H'=H∧s 0=slAV k (l.map StoredV.cells)∧s 1=.int .i64 8∧s 6=.int .i64 i∧s 5=.int .i64 ((((l.take 9).take i).map fun x=>cntP x.patch).sum:Nat)∧(l.take 9).any (fun x=>great16 x.patch)=((l.take 9).drop i).any (fun x=>great16 x.patch)) ?_ ?_
 ·exact ⟨rfl,rfl,rfl,rfl,rfl,rfl⟩
 rintro i s H' ⟨rfl,e0,e1,e6,e5,hany⟩ hi
 by_cases h:i<(l.take 9).length
 ·have hil:i<l.length:=by omega
  have hi8:(i:Int)≤8:=by omega
  have hget:(l.take 9)[i]=l[i]:=List.getElem_take
  have hst:=sum_take (f:=fun x:StoredV=>cntP x.patch) h
  have hs:=sum_le (l:=(l.take 9).take i) (f:=fun x:StoredV=>cntP x.patch) (b:=2^42) fun x hx=>cntP_le (hl.p x (List.mem_of_mem_take (List.mem_of_mem_take hx)))
  have hsl:((l.take 9).take i).length≤9:=by simp;omega
  rw [any_drop h] at hany
  rw [hget] at hany hst
  have hp:=hl.p _ (List.getElem_mem hil)
  have g:=(ret_great16 S l[i].patch hp).eq
  have hcp:=cntP_le hp
  cases hbg:great16 l[i].patch with
  | true =>
   have hgr:heavyB l=true:=by unfold heavyB;rw [hany];simp [hbg]
   simp [e0,e1,e6,e5,hil,hi8,guardV,g,hbg,hgr]
  | false =>
   have hany':(l.take 9).any (fun x=>great16 x.patch)=((l.take 9).drop (i+1)).any (fun x=>great16 x.patch):=by rw [hany,hbg];rfl
   generalize hq:(((l.take 9).take i).map fun x=>cntP x.patch).sum=q at *
   simp [e0,e1,e6,e5,hil,hi8,guardV,g,hbg]
   refine loop_count l[i].patch.changes.length (fun j s H''=>H''=H'∧s 0=slAV k (l.map StoredV.cells)∧s 1=.int .i64 8∧s 6=.int .i64 i∧s 7=.int .i64 j∧s 5=.int .i64 (q+((l[i].patch.changes.take j).map cntC).sum:Nat)) ?_ ?_
   ·exact ⟨rfl,e0,e1,e6,rfl,e5⟩
   clear e0 e1 e6 e5
   rintro j s H'' ⟨rfl,e0,e1,e6,e7,e5⟩ hj
   by_cases hjl:j<l[i].patch.changes.length
   ·have hjt:=sum_take (f:=cntC) hjl
    have hjs:=sum_le (l:=l[i].patch.changes.take j) (f:=cntC) (b:=2^22) fun c hc=>by have:=(hp.changes c (List.mem_of_mem_take hc)).linesN;have:=(hp.changes c (List.mem_of_mem_take hc)).over;unfold cntC;omega
    have hjl2:(l[i].patch.changes.take j).length≤2^20:=by have:=hp.changesN;simp;omega
    have hc:=hp.changes _ (List.getElem_mem hjl)
    have hc1:=hc.linesN
    have hc2:=hc.over
    have hcc:cntC l[i].patch.changes[j]=1+l[i].patch.changes[j].lines.length+l[i].patch.changes[j].over.length:=rfl
    have hmt:∀j,(l[i].patch.changes.map cntC).take j=(l[i].patch.changes.take j).map cntC:=fun j=>List.map_take.symm
    generalize hr:((l[i].patch.changes.take j).map cntC).sum=r at *
    generalize hr2:((l[i].patch.changes.take (j+1)).map cntC).sum=r2 at *
    have w1:IntKind.i64.wrap (((q+r:Nat):Int)+1)=((q+r+1:Nat):Int):=by rw [wrap_in (by omega) (by omega)];omega
    have w2:IntKind.i64.wrap (((q+r+1:Nat):Int)+(l[i].patch.changes[j].lines.length:Int))=((q+r+1+l[i].patch.changes[j].lines.length:Nat):Int):=by rw [wrap_in (by omega) (by omega)];omega
    have w3:IntKind.i64.wrap (((q+r+1+l[i].patch.changes[j].lines.length:Nat):Int)+(l[i].patch.changes[j].over.length:Int))=((q+r2:Nat):Int):=by rw [wrap_in (by omega) (by omega)];omega
    have hcn:=hp.changesN
    generalize hA:q+r=A at *
    generalize hB:A+1=B at *
    generalize hD:B+l[i].patch.changes[j].lines.length=D at *
    generalize hE:q+r2=E at *
    simp [e0,e1,e6,e7,e5,hil,hjl,w1,w2,w3,wrap_succ hjl (by omega)]
    rw [hmt,hr2];omega
   ·have hj':j=l[i].patch.changes.length:=by omega
    subst hj'
    rw [List.take_length] at e5
    have e5:s 5=.int .i64 ((q+cntP l[i].patch:Nat):Int):=e5
    simp [e0,e1,e6,e7,e5,hil,wrap_succ (show i<10 by omega) (by decide)]
    have hmt:((l.map fun x=>cntP x.patch).take 9).take (i+1)=((l.take 9).take (i+1)).map fun x=>cntP x.patch:=by rw [List.map_take,List.map_take]
    refine ⟨by omega,?_,hany'⟩
    rw [hmt,hst];omega
 ·have h':i=(l.take 9).length:=by omega
  subst h'
  rw [List.take_length] at e5
  have hg:heavyB l=(decide (8<(l.length:Int))||decide (300<((((l.take 9).map fun x=>cntP x.patch).sum:Nat):Int))):=by
   unfold heavyB
   rw [hany,List.drop_length]
   simp only [List.any_nil,Bool.false_or]
   congr 1<;>simp<;>omega
  rw [hg]
  rw [hlen9] at e6
  generalize ((l.take 9).map fun x=>cntP x.patch).sum=n at *
  by_cases h8:(8:Int)<l.length
  ·have h9:min 9 l.length=9:=by omega
   rw [h9] at e6
   have h9l:9<l.length∨l.length=9:=by omega
   rcases h9l with h9l | h9l
   ·simp [e0,e1,e6,e5,guardV,h8,show (9:Int)<l.length by omega]
   ·simp [e0,e1,e6,e5,guardV,h8,h9l]
  ·have h9:min 9 l.length=l.length:=by omega
   rw [h9] at e6
   simp [e0,e1,e6,e5,guardV,h8]
theorem ret_great17 (S:Setting8 C) (l:List StoredV) (k:SK) (hl:SetSz l):Ret Tryz.prog C 13 [] [slAV k (l.map StoredV.cells)] (.bool (heavyB l)):=by
 refine ret_pure (S.pure8 _ (by decide)) fun H=>func_rule Tryz.func13 rfl (S.prim _ (by decide)) (by simp) (by kernel_rfl) ?_
 unfold Tryz.f13
 have e:=(ret_heavy S l k hl).eq
 simp [argS,e]
end Go.Proofs.Ev
namespace Go.Proofs.Ev
open Go.Proofs Go.ChangeShapes Go.WideShapes Go.ChangeAt Go.RowKit Go.Deep
open Go.Proofs.YtckbkhfaahpanaaGreatDoor (Rows.uptoBulk Rows.uptoBulkAll)
section
variable {W:World}
theorem r3:RdOf W 3 (fun n:Int=>[.int .i64 n]) (fun _=>1):=reads_int Tryz.underlying3
theorem r9:RdOf W 9 (fun l:List UInt8=>[.str l]) (fun l=>l.length+1):=reads_str Tryz.underlying9
theorem r25:RdOf W 25 DigV.cells (fun _=>1):=reads_dig (by kernel_rfl) Tryz.underlying25
def IdV.of (x:DigV) (n:Int):IdV:=⟨x.d,n,x.h,x.b⟩
@[simp] theorem IdV.of_cells (x:DigV) (n:Int):(IdV.of x n).cells=x.cells++[.int .i64 n]:=rfl
theorem reads_id:RdOf W 27 IdV.cells (fun _=>1):=by
 intro X enc fuel cs d p h
 obtain ⟨f0,f1,hu,t0,o0,t1,o1⟩:∃f0 f1:Field,Tryz.prog.underlying 27=some (.struct #[f0,f1])∧f0.type=25∧f0.offset=0∧f1.type=3∧f1.offset=32:=⟨_,_,Tryz.underlying27,rfl,rfl,rfl,rfl⟩
 obtain ⟨xs,m,_,hx,hl,hlen,hg⟩:=DataW.trod_struct hu h
 rw [show Tryz.prog.cellsOf 27=33 by kernel_rfl] at hl
 match xs,hlen with
 | [y0,y1],_ =>
  have q0:=hg 0 f0 rfl
  rw [t0,o0,show Tryz.prog.cellsOf 25=32 by kernel_rfl] at q0
  obtain ⟨x0,s0,w0⟩:=r25 X enc m _ y0.1 y0.2 q0
  have q1:=hg 1 f1 rfl
  rw [t1,o1,show Tryz.prog.cellsOf 3=1 by kernel_rfl] at q1
  obtain ⟨x1,s1,w1⟩:=r3 X enc m _ y1.1 y1.2 q1
  have hall:=(Is.cut s0 (Is.cut s1 (.nil hl) rfl) rfl)
  refine ⟨IdV.of x0 x1,hall,?_⟩
  cases hx
  simp only [List.map_cons,List.map_nil,Rows.uptoBulk,Rows.uptoBulkAll] at *
  omega
def wtC (c:ChV):Nat:=c.name.length+c.data.length+(c.lines.map fun l=>l.length+1).sum+(c.over.map fun _=>1).sum+1
def wtP (p:PatchV):Nat:=p.author.length+p.message.length+(p.deps.map fun _=>1).sum+(p.changes.map wtC).sum+1
def wtS (x:StoredV):Nat:=wtP x.patch+1
theorem r55:RdOf W 55 (fun l:List (List UInt8)=>[slAV .loose (l.map strC)]) (fun l=>(l.map fun x=>x.length+1).sum+1):=reads_slice Tryz.underlying55 (n:=1) (by kernel_rfl) (by decide) (fun _=>rfl) r9
theorem r34:RdOf W 34 (fun l:List IdV=>[slAV .loose (l.map IdV.cells)]) (fun l=>(l.map fun _=>1).sum+1):=reads_slice Tryz.underlying34 (n:=33) (by kernel_rfl) (by decide) (by simp) reads_id
theorem r60:RdOf W 60 (fun l:List DigV=>[slAV .loose (l.map DigV.cells)]) (fun l=>(l.map fun _=>1).sum+1):=reads_slice Tryz.underlying60 (n:=32) (by kernel_rfl) (by decide) (by simp) r25
set_option maxHeartbeats 1000000 in
theorem reads_ch:RdOf W 57 ChV.cells wtC:=by
 intro X enc fuel cs d p h
 obtain ⟨f0,f1,f2,f3,f4,f5,f6,f7,f8,f9,f10,hu,t0,o0,t1,o1,t2,o2,t3,o3,t4,o4,t5,o5,t6,o6,t7,o7,t8,o8,t9,o9,t10,o10⟩:∃f0 f1 f2 f3 f4 f5 f6 f7 f8 f9 f10:Field,Tryz.prog.underlying 57=some (.struct #[f0,f1,f2,f3,f4,f5,f6,f7,f8,f9,f10])∧f0.type=3∧f0.offset=0∧f1.type=27∧f1.offset=1∧f2.type=3∧f2.offset=34∧f3.type=27∧f3.offset=35∧f4.type=9∧f4.offset=68∧f5.type=3∧f5.offset=69∧f6.type=9∧f6.offset=70∧f7.type=27∧f7.offset=71∧f8.type=27∧f8.offset=104∧f9.type=55∧f9.offset=137∧f10.type=34∧f10.offset=138:=⟨_,_,_,_,_,_,_,_,_,_,_,Tryz.underlying57,rfl,rfl,rfl,rfl,rfl,rfl,rfl,rfl,rfl,rfl,rfl,rfl,rfl,rfl,rfl,rfl,rfl,rfl,rfl,rfl,rfl,rfl⟩
 obtain ⟨xs,m,_,hx,hl,hlen,hg⟩:=DataW.trod_struct hu h
 rw [show Tryz.prog.cellsOf 57=139 by kernel_rfl] at hl
 match xs,hlen with
 | [y0,y1,y2,y3,y4,y5,y6,y7,y8,y9,y10],_ =>
  have q0:=hg 0 f0 rfl
  rw [t0,o0,show Tryz.prog.cellsOf 3=1 by kernel_rfl] at q0
  obtain ⟨x0,s0,w0⟩:=r3 X enc m _ y0.1 y0.2 q0
  have q1:=hg 1 f1 rfl
  rw [t1,o1,show Tryz.prog.cellsOf 27=33 by kernel_rfl] at q1
  obtain ⟨x1,s1,w1⟩:=reads_id X enc m _ y1.1 y1.2 q1
  have q2:=hg 2 f2 rfl
  rw [t2,o2,show Tryz.prog.cellsOf 3=1 by kernel_rfl] at q2
  obtain ⟨x2,s2,w2⟩:=r3 X enc m _ y2.1 y2.2 q2
  have q3:=hg 3 f3 rfl
  rw [t3,o3,show Tryz.prog.cellsOf 27=33 by kernel_rfl] at q3
  obtain ⟨x3,s3,w3⟩:=reads_id X enc m _ y3.1 y3.2 q3
  have q4:=hg 4 f4 rfl
  rw [t4,o4,show Tryz.prog.cellsOf 9=1 by kernel_rfl] at q4
  obtain ⟨x4,s4,w4⟩:=r9 X enc m _ y4.1 y4.2 q4
  have q5:=hg 5 f5 rfl
  rw [t5,o5,show Tryz.prog.cellsOf 3=1 by kernel_rfl] at q5
  obtain ⟨x5,s5,w5⟩:=r3 X enc m _ y5.1 y5.2 q5
  have q6:=hg 6 f6 rfl
  rw [t6,o6,show Tryz.prog.cellsOf 9=1 by kernel_rfl] at q6
  obtain ⟨x6,s6,w6⟩:=r9 X enc m _ y6.1 y6.2 q6
  have q7:=hg 7 f7 rfl
  rw [t7,o7,show Tryz.prog.cellsOf 27=33 by kernel_rfl] at q7
  obtain ⟨x7,s7,w7⟩:=reads_id X enc m _ y7.1 y7.2 q7
  have q8:=hg 8 f8 rfl
  rw [t8,o8,show Tryz.prog.cellsOf 27=33 by kernel_rfl] at q8
  obtain ⟨x8,s8,w8⟩:=reads_id X enc m _ y8.1 y8.2 q8
  have q9:=hg 9 f9 rfl
  rw [t9,o9,show Tryz.prog.cellsOf 55=1 by kernel_rfl] at q9
  obtain ⟨x9,s9,w9⟩:=r55 X enc m _ y9.1 y9.2 q9
  have q10:=hg 10 f10 rfl
  rw [t10,o10,show Tryz.prog.cellsOf 34=1 by kernel_rfl] at q10
  obtain ⟨x10,s10,w10⟩:=r34 X enc m _ y10.1 y10.2 q10
  have hall:=(Is.cut s0 (Is.cut s1 (Is.cut s2 (Is.cut s3 (Is.cut s4 (Is.cut s5 (Is.cut s6 (Is.cut s7 (Is.cut s8 (Is.cut s9 (Is.cut s10 (.nil hl) rfl) rfl) rfl) rfl) rfl) rfl) rfl) rfl) rfl) rfl) rfl)
  refine ⟨⟨x0,x1,x2,x3,x4,x5,x6,x7,x8,x9,.loose,x10,.loose⟩,hall,?_⟩
  cases hx
  simp only [List.map_cons,List.map_nil,Rows.uptoBulk,Rows.uptoBulkAll,wtC] at *
  omega
theorem r59:RdOf W 59 (fun l:List ChV=>[slAV .loose (l.map ChV.cells)]) (fun l=>(l.map wtC).sum+1):=reads_slice Tryz.underlying59 (n:=139) (by kernel_rfl) (by decide) (by simp) reads_ch
theorem reads_patch:RdOf W 62 PatchV.cells wtP:=by
 intro X enc fuel cs d p h
 obtain ⟨f0,f1,f2,f3,f4,hu,t0,o0,t1,o1,t2,o2,t3,o3,t4,o4⟩:∃f0 f1 f2 f3 f4:Field,Tryz.prog.underlying 62=some (.struct #[f0,f1,f2,f3,f4])∧f0.type=9∧f0.offset=0∧f1.type=9∧f1.offset=1∧f2.type=3∧f2.offset=2∧f3.type=60∧f3.offset=3∧f4.type=59∧f4.offset=4:=⟨_,_,_,_,_,Tryz.underlying62,rfl,rfl,rfl,rfl,rfl,rfl,rfl,rfl,rfl,rfl⟩
 obtain ⟨xs,m,_,hx,hl,hlen,hg⟩:=DataW.trod_struct hu h
 rw [show Tryz.prog.cellsOf 62=5 by kernel_rfl] at hl
 match xs,hlen with
 | [y0,y1,y2,y3,y4],_ =>
  have q0:=hg 0 f0 rfl
  rw [t0,o0,show Tryz.prog.cellsOf 9=1 by kernel_rfl] at q0
  obtain ⟨x0,s0,w0⟩:=r9 X enc m _ y0.1 y0.2 q0
  have q1:=hg 1 f1 rfl
  rw [t1,o1,show Tryz.prog.cellsOf 9=1 by kernel_rfl] at q1
  obtain ⟨x1,s1,w1⟩:=r9 X enc m _ y1.1 y1.2 q1
  have q2:=hg 2 f2 rfl
  rw [t2,o2,show Tryz.prog.cellsOf 3=1 by kernel_rfl] at q2
  obtain ⟨x2,s2,w2⟩:=r3 X enc m _ y2.1 y2.2 q2
  have q3:=hg 3 f3 rfl
  rw [t3,o3,show Tryz.prog.cellsOf 60=1 by kernel_rfl] at q3
  obtain ⟨x3,s3,w3⟩:=r60 X enc m _ y3.1 y3.2 q3
  have q4:=hg 4 f4 rfl
  rw [t4,o4,show Tryz.prog.cellsOf 59=1 by kernel_rfl] at q4
  obtain ⟨x4,s4,w4⟩:=r59 X enc m _ y4.1 y4.2 q4
  have hall:=(Is.cut s0 (Is.cut s1 (Is.cut s2 (Is.cut s3 (Is.cut s4 (.nil hl) rfl) rfl) rfl) rfl) rfl)
  refine ⟨⟨x0,x1,x2,x3,.loose,x4,.loose⟩,hall,?_⟩
  cases hx
  simp only [List.map_cons,List.map_nil,Rows.uptoBulk,Rows.uptoBulkAll,wtP] at *
  omega
theorem reads_stored:RdOf W 104 StoredV.cells wtS:=by
 intro X enc fuel cs d p h
 obtain ⟨f0,f1,hu,t0,o0,t1,o1⟩:∃f0 f1:Field,Tryz.prog.underlying 104=some (.struct #[f0,f1])∧f0.type=25∧f0.offset=0∧f1.type=62∧f1.offset=32:=⟨_,_,Tryz.underlying104,rfl,rfl,rfl,rfl⟩
 obtain ⟨xs,m,_,hx,hl,hlen,hg⟩:=DataW.trod_struct hu h
 rw [show Tryz.prog.cellsOf 104=37 by kernel_rfl] at hl
 match xs,hlen with
 | [y0,y1],_ =>
  have q0:=hg 0 f0 rfl
  rw [t0,o0,show Tryz.prog.cellsOf 25=32 by kernel_rfl] at q0
  obtain ⟨x0,s0,w0⟩:=r25 X enc m _ y0.1 y0.2 q0
  have q1:=hg 1 f1 rfl
  rw [t1,o1,show Tryz.prog.cellsOf 62=5 by kernel_rfl] at q1
  obtain ⟨x1,s1,w1⟩:=reads_patch X enc m _ y1.1 y1.2 q1
  have hall:=(Is.cut s0 (Is.cut s1 (.nil hl) rfl) rfl)
  refine ⟨⟨x0,x1⟩,hall,?_⟩
  cases hx
  simp only [List.map_cons,List.map_nil,Rows.uptoBulk,Rows.uptoBulkAll,wtS] at *
  omega
theorem r23:RdOf W 23 (fun l:List StoredV=>[slAV .loose (l.map StoredV.cells)]) (fun l=>(l.map wtS).sum+1):=reads_slice Tryz.underlying23 (n:=37) (by kernel_rfl) (by decide) (by simp) reads_stored
theorem sum_mem {α:Type} (l:List α) (f:α→Nat) {x:α} (h:x∈l):f x≤(l.map f).sum:=by
 induction l with
 | nil=>cases h
 | cons y r ih =>
  simp only [List.map_cons,List.sum_cons]
  rcases List.mem_cons.1 h with rfl | h
  ·omega
  ·have:=ih h;omega
theorem sum_len {α:Type} (l:List α) (f:α→Nat) (h:∀x∈l,1≤f x):l.length≤(l.map f).sum:=by
 induction l with
 | nil=>exact Nat.le_refl _
 | cons y r ih =>
  simp only [List.map_cons,List.sum_cons,List.length_cons]
  have:=ih fun x hx=>h x (by simp [hx])
  have:=h y (by simp)
  omega
theorem setSz_of {l:List StoredV} (h:(l.map wtS).sum≤2^20):SetSz l:=by
 refine ⟨Nat.le_trans (sum_len l wtS fun x _=>by unfold wtS;omega) h,fun x hx=>?_⟩
 have h1:=Nat.le_trans (sum_mem l wtS hx) h
 unfold wtS wtP at h1
 have h2:=sum_len x.patch.deps (fun _=>1) fun _ _=>Nat.le_refl _
 have h3:=sum_len x.patch.changes wtC fun x _=>by unfold wtC;omega
 refine ⟨by omega,by omega,by omega,by omega,fun c hc=>?_⟩
 have h4:=sum_mem x.patch.changes wtC hc
 have h5:wtC c≤2^20:=by omega
 unfold wtC at h5
 have h6:=sum_len c.lines (fun l=>l.length+1) fun _ _=>by omega
 have h7:=sum_len c.over (fun _=>1) fun _ _=>Nat.le_refl _
 refine ⟨by omega,by omega,by omega,fun y hy=>?_,by omega⟩
 have:=sum_mem c.lines (fun l=>l.length+1) hy
 omega
variable {X:Type} {enc:TypeId×Value→X} {base:Nat} {v:Value} {d:DataW X} {p:List MemPlace}
theorem Is.here {a:AV} {V:Value} (h:Is W [a] [V]):RV phi0 0 W a V:=by
 obtain ⟨_,U,h1,h2⟩:=h.2 0 a rfl
 simp only [List.getElem?_cons_zero,Option.some.injEq] at h1
 subst h1;exact h2
set_option maxRecDepth 100000 in
theorem set_reads (hok:Value.okWide Tryz.prog W .any base 23 v) (h:DataW.Trod enc Tryz.prog W 0 (fun _=>true) true 23 v d p) (hw:Rows.uptoBulk d≤1048576) :
 ∃s0:List StoredV,RV phi0 0 W (slAV .loose (s0.map StoredV.cells)) v∧SetSz s0:=by
 have hv:=okWide_slice (Tryz.underlying23) hok
 clear hok
 obtain ⟨a,len,cap,rfl⟩:=hv
 obtain ⟨fuel,hf⟩:=h
 obtain ⟨l,h1,h2⟩:=r23 X enc _ _ _ _ hf
 have h3:(l.map wtS).sum+1≤Rows.uptoBulk d:=h2
 exact ⟨l,h1.here,setSz_of (by omega)⟩
end
end Go.Proofs.Ev
namespace Go.Proofs.Ev
theorem put_le:∀(f n rest:Nat),n<f→n+rest≤Made.put f n rest
 | 0,_,_,h=>absurd h (Nat.not_lt_zero _)
 | f+1,n,rest,h=>by
  unfold Made.put
  by_cases h0:n=0
  ·rw [if_pos h0];omega
  ·rw [if_neg h0]
   have:=put_le f (n / 256) rest (by omega)
   omega
theorem pack_mem {n:Nat}:∀{l:List Nat},n∈l→n<Made.pack l
 | m::l,h=>by
  have hp:=put_le (m+1) m (256+257*Made.pack l) (by omega)
  have e:Made.pack (m::l)=Made.put (m+1) m (256+257*Made.pack l):=rfl
  rw [e]
  rcases List.mem_cons.1 h with rfl | h
  ·omega
  ·have:=pack_mem h;omega
theorem decode_mem {c:Nat} {d:TypeDesc} (h:Made.decode c=some d):∃l,Made.numbers d=some l∧∀n∈l,n<c:=by
 unfold Made.decode at h
 rw [Option.filter_eq_some_iff] at h
 have h2:=h.2
 unfold Made.code at h2
 cases hn:Made.numbers d with
 | none=>rw [hn] at h2;simp at h2
 | some l =>
  rw [hn] at h2
  simp at h2
  exact ⟨l,rfl,fun n hm=>h2▸pack_mem hm⟩
theorem forIn_inv {α β:Type} {f:α→β→Option (ForInStep β)} {Inv:β→Prop}:∀{l:List α} (_:∀a∈l,∀b s,Inv b→f a b=some s→Inv s.value) {b r:β} (_:Inv b) (_:forIn l b f=some r),Inv r
 | [],_,b,r,hb,hr=>by simp at hr;exact hr▸hb
 | a::l,h,b,r,hb,hr=>by
  rw [List.forIn_cons] at hr
  cases hf:f a b with
  | none=>rw [hf] at hr;cases hr
  | some s =>
   rw [hf] at hr
   have hs:=h a (by simp) b s hb hf
   cases s with
   | done b'=>simp at hr;exact hr▸hs
   | yield b'=>exact forIn_inv (fun a ha=>h a (by simp [ha])) hs hr
theorem struct_types {info:TypeId→Option TypeInfo} {fs:Array Field} {i:TypeInfo} (h:Made.reckonStruct info fs=some i):∃out,i.desc=.struct out∧∀f∈out,∃g∈fs,f.type=g.type:=by
 unfold Made.reckonStruct at h
 simp only [bind,Option.bind_eq_some_iff,pure] at h
 obtain ⟨r,hr,h⟩:=h
 have key:∀f∈r.1,∃g∈fs,f.type=g.type:=by
  rw [←Array.forIn_toList] at hr
  refine forIn_inv (Inv:=fun b=>∀f∈b.1,∃g∈fs,f.type=g.type) ?_ (by simp) hr
  intro a ha b s hb hs
  have hx:∃x:Field,s.value.1=b.1.push x∧x.type=a.type:=by
   obtain ⟨i,_,hs⟩:=Option.bind_eq_some_iff.1 hs
   split at hs
   ·cases hs
   ·split at hs
    ·cases hs
    ·split at hs
     ·obtain ⟨tag,_,hs⟩:=Option.bind_eq_some_iff.1 hs
      split at hs<;>cases hs<;>exact ⟨_,rfl,rfl⟩
     ·obtain ⟨tag,_,hs⟩:=Option.bind_eq_some_iff.1 hs
      split at hs<;>cases hs<;>exact ⟨_,rfl,rfl⟩
  obtain ⟨x,h1,h2⟩:=hx
  intro f hf
  rw [h1,Array.mem_push] at hf
  rcases hf with hf | rfl
  ·exact hb f hf
  ·exact ⟨a,by simpa using ha,h2⟩
 split at h<;>cases h<;>exact ⟨_,rfl,key⟩
theorem num_field {fs:Array Field} {l:List Nat} (h:Made.numbers (.struct fs)=some l) {g:Field} (hg:g∈fs):g.type∈l:=by
 simp only [Made.numbers,Option.some.injEq] at h
 subst h
 simp only [List.mem_cons,List.mem_flatMap,List.mem_append]
 exact .inr (.inr ⟨g,by simpa using hg,.inl (.inl (.inr (.inl rfl)))⟩)
theorem made_desc {info:TypeId→Option TypeInfo} {d:TypeDesc} {i:TypeInfo} (h:Made.reckon info d=some i):i.desc=d∨∃fs out,d=.struct fs∧i.desc=.struct out∧∀f∈out,∃g∈fs,f.type=g.type:=by
 unfold Made.reckon at h
 split at h
 ·obtain ⟨j,_,h⟩:=Option.bind_eq_some_iff.1 h
  split at h
  ·cases h
  ·split at h
   ·cases h
   ·obtain ⟨s,_,h⟩:=Option.bind_eq_some_iff.1 h
    cases h;exact .inl rfl
  ·obtain ⟨s,_,h⟩:=Option.bind_eq_some_iff.1 h
   cases h;exact .inl rfl
 all_goals first | (cases h;done) | skip
 all_goals first
  | (obtain ⟨out,h1,h2⟩:=struct_types h;exact .inr ⟨_,out,rfl,h1,h2⟩)
  | (simp only [bind,Option.bind_eq_some_iff,pure,Option.some.injEq] at h
     obtain ⟨_,_,_,_,_,_,_,_,rfl⟩:=h;exact .inl rfl)
  | (simp only [bind,Option.bind_eq_some_iff,pure,Option.some.injEq] at h
     obtain ⟨_,_,_,_,_,_,rfl⟩:=h;exact .inl rfl)
  | (simp only [bind,Option.bind_eq_some_iff,pure,Option.some.injEq] at h
     obtain ⟨_,_,_,_,rfl⟩:=h;exact .inl rfl)
  | (simp only [bind,Option.bind_eq_some_iff,pure,Option.some.injEq] at h
     obtain ⟨_,⟨_,_,_⟩,rfl⟩:=h;exact .inl rfl)
  | (simp only [bind,Option.bind_eq_some_iff,pure,Option.some.injEq] at h
     obtain ⟨_,_,rfl⟩:=h;exact .inl rfl)
theorem info_high {P:Program} {t:TypeId} (h:¬t<P.types.size) {i:TypeInfo} (hi:P.info? t=some i):∃info d,Made.decode (t-P.types.size)=some d∧Made.reckon info d=some i:=by
 unfold Tables.info? at hi
 rw [if_neg h] at hi
 have e:Made.infoAt P.toTables Made.depth t=(Made.decode (t-P.types.size)).bind (Made.reckon (Made.infoAt P.toTables 99)):=by
  show Made.infoAt P.toTables (99+1) t=_
  rw [Made.infoAt,if_neg h]
 rw [e,Option.bind_eq_some_iff] at hi
 obtain ⟨d,h1,h2⟩:=hi
 exact ⟨_,d,h1,h2⟩
theorem cls_high {P:Program} {t:TypeId} (h:¬t<P.types.size):clsG P t 1≠2:=by
 unfold clsG
 rw [if_pos rfl]
 split
 ·rename_i i hi
  obtain ⟨info,d,h1,h2⟩:=info_high h hi
  obtain ⟨l,h3,_⟩:=decode_mem h1
  split
  ·rename_i hd
   rcases made_desc h2 with h4 | ⟨fs,out,_,h4,_⟩
   ·rw [hd] at h4
    subst h4
    simp [Made.numbers] at h3
   ·rw [hd] at h4;cases h4
  ·simp
 ·simp
def tableOK (P:Program):Bool:=P.types.toList.all fun i=>match i.desc with | .named _ u=>decide (u<P.types.size) | .pointer u=>decide (u<P.types.size) | _=>true
theorem table_at {P:Program} (hT:tableOK P=true) {t:TypeId} (h:t<P.types.size) {i:TypeInfo} (hi:P.info? t=some i):(∀n u,i.desc=.named n u→u<P.types.size)∧∀u,i.desc=.pointer u→u<P.types.size:=by
 unfold Tables.info? at hi
 rw [if_pos h] at hi
 have hm:i∈P.types.toList:=by simpa using Array.mem_of_getElem? hi
 have h1:=List.all_eq_true.1 hT i hm
 refine ⟨fun n u e=>?_,fun u e=>?_⟩
 ·rw [e] at h1;exact of_decide_eq_true h1
 ·rw [e] at h1;exact of_decide_eq_true h1
theorem ptr_lt {P:Program} (hT:tableOK P=true) {t u:TypeId} (h:P.underlying t=some (.pointer u)):u<P.types.size∨(¬t<P.types.size∧u<t):=by
 unfold Program.underlying at h
 by_cases ht:t<P.types.size
 ·left
  split at h
  ·rename_i n v hi
   obtain ⟨j,h1,h2⟩:=Option.map_eq_some_iff.1 h
   exact (table_at hT ((table_at hT ht hi).1 _ _ rfl) h1).2 u h2
  ·rename_i j _ hi
   exact (table_at hT ht hi).2 u (by simpa using h)
  ·cases h
 ·right
  refine ⟨ht,?_⟩
  split at h
  ·rename_i n v hi
   obtain ⟨info,d,h1,h2⟩:=info_high ht hi
   obtain ⟨l,h3,_⟩:=decode_mem h1
   rcases made_desc h2 with h4 | ⟨fs,out,_,h4,_⟩
   ·simp only at h4;subst h4;simp [Made.numbers] at h3
   ·cases h4
  ·rename_i j _ hi
   obtain ⟨info,d,h1,h2⟩:=info_high ht hi
   obtain ⟨l,h3,h5⟩:=decode_mem h1
   rcases made_desc h2 with h4 | ⟨fs,out,_,h4,_⟩
   ·have hd:d=.pointer u:=by rw [←h4];simpa using h
    subst hd
    simp only [Made.numbers,Option.some.injEq] at h3
    exact Nat.lt_of_lt_of_le (h5 u (by rw [←h3];simp)) (Nat.sub_le _ _)
   ·simp only [Option.some.injEq] at h;rw [h4] at h;cases h
  ·cases h
theorem tag_high {P:Program} (hT:tableOK P=true) {t:TypeId} (ht:¬t<P.types.size):tagG P t≠1:=by
 unfold tagG
 split
 ·rename_i fs hu
  split
  ·rename_i f hf
   split
   ·rename_i u hp
    split
    ·rename_i e
     exfalso
     subst e
     rcases ptr_lt hT hp with h | ⟨hf2,h⟩
     ·exact ht h
     ·have hlt:f.type<u:=by
       unfold Program.underlying at hu
       split at hu
       ·rename_i n v hi
        obtain ⟨info,d,h1,h2⟩:=info_high ht hi
        obtain ⟨l,h3,_⟩:=decode_mem h1
        rcases made_desc h2 with h4 | ⟨fs,out,_,h4,_⟩
        ·simp only at h4;subst h4;simp [Made.numbers] at h3
        ·cases h4
       ·rename_i j _ hi
        obtain ⟨info,d,h1,h2⟩:=info_high ht hi
        obtain ⟨l,h3,h5⟩:=decode_mem h1
        have hj:j.desc=.struct fs:=by simpa using hu
        have hm:f∈fs:=Array.mem_of_getElem? hf
        have:f.type∈l:=by
         rcases made_desc h2 with h4 | ⟨gs,out,hd,h4,h6⟩
         ·rw [hj] at h4;subst h4
          exact num_field h3 hm
         ·rw [hj] at h4;cases h4
          obtain ⟨g,hg,e⟩:=h6 f hm
          subst hd
          rw [e];exact num_field h3 hg
        exact Nat.lt_of_lt_of_le (h5 _ this) (Nat.sub_le _ _)
       ·cases hu
      exact Nat.lt_asymm h hlt
    ·simp
   ·simp
  ·simp
 ·simp
end Go.Proofs.Ev
namespace Go.Proofs.Ev
open Go.Proofs
@[simp] theorem fw_fn (r:Option Nat) (f:FuncId):(Fw r).fn f=True:=rfl
@[simp] theorem fw_depth (r:Option Nat):(Fw r).depth=none:=rfl
@[simp] theorem fw_round (r:Option Nat):(Fw r).round=r:=rfl
set_option maxRecDepth 100000 in
set_option maxHeartbeats 1000000 in
theorem call_sl (s:ByteArray) (c:Int) (w:World):CallsIn (Fw none) 0 Tryz.prog 370 #[.string s,.int .u8 c] w fun e w'=>e=.returned (.int .i64 (Lib.indexByte s.data.toList c.toNat.toUInt8))∧w'=w:=by
 refine callsIn_of_wp Tryz.func370 rfl trivial ?_ rfl
 have hn:Tryz.f370.ntmps=8:=rfl
 simp only [hn,List.size_toArray,List.length_cons,List.length_nil,Nat.reduceAdd,Nat.reduceSub,Array.replicate_succ,Array.replicate_zero,List.push_toArray,List.append_toArray,List.nil_append,List.cons_append]
 gi_wp2
 rw [run_callFunc_extern Tryz.func393 (by kernel_rfl) (by kernel_rfl) (by kernel_rfl) (e:=Extern.BytealgIndexByte.indexByte) (by kernel_rfl),Lib.run_indexByteString]
 simp only [Result.andThen]
 gi_wp2
 go_ret
 exact ⟨rfl,rfl⟩
set_option maxRecDepth 100000 in
set_option maxHeartbeats 1000000 in
theorem call_indexByte (s:ByteArray) (c:Int) (w:World):CallsIn (Fw none) 0 Tryz.prog 311 #[.string s,.int .u8 c] w fun e w'=>e=.returned (.int .i64 (Lib.indexByte s.data.toList c.toNat.toUInt8))∧w'=w:=by
 refine callsIn_of_wp Tryz.func311 rfl trivial ?_ rfl
 have hn:Tryz.f311.ntmps=8:=rfl
 simp only [hn,List.size_toArray,List.length_cons,List.length_nil,Nat.reduceAdd,Nat.reduceSub,Array.replicate_succ,Array.replicate_zero,List.push_toArray,List.append_toArray,List.nil_append,List.cons_append]
 gi_wp2_with (gi_at_call 370;refine (call_sl _ _ _).mono ?_;rintro e w' ⟨rfl,rfl⟩)
 go_ret
 exact ⟨rfl,rfl⟩
end Go.Proofs.Ev
namespace Go.Proofs.Ev
open Go.Proofs
theorem cmp_bytes:∀{a b:List Nat},a.length=b.length→(∀n∈a,n<256)→(∀n∈b,n<256)→Lib.compareBytes (a.map UInt8.ofNat) (b.map UInt8.ofNat)=cmpD a b
 | [],[],_,_,_=>rfl
 | [],_::_,h,_,_=>by simp at h
 | _::_,[],h,_,_=>by simp at h
 | x::a,y::b,h,ha,hb=>by
  have hx:=ha x (by simp)
  have hy:=hb y (by simp)
  have ih:=cmp_bytes (a:=a) (b:=b) (by simpa using h) (fun n hn=>ha n (by simp [hn])) (fun n hn=>hb n (by simp [hn]))
  have e1:UInt8.ofNat x<UInt8.ofNat y↔x<y:=by
   rw [UInt8.lt_iff_toNat_lt,UInt8.toNat_ofNat',UInt8.toNat_ofNat',Nat.mod_eq_of_lt hx,Nat.mod_eq_of_lt hy]
  have e2:UInt8.ofNat y<UInt8.ofNat x↔y<x:=by
   rw [UInt8.lt_iff_toNat_lt,UInt8.toNat_ofNat',UInt8.toNat_ofNat',Nat.mod_eq_of_lt hx,Nat.mod_eq_of_lt hy]
  rw [List.map_cons,List.map_cons,Lib.compareBytes,cmpD,ih]
  simp only [e1,e2]
def byteR:List AV→Option Nat
 | [.int .u8 n]=>if 0≤n∧n<256 then some n.toNat else none
 | _=>none
def bytesB (H:Heap) (v:AV):Option (List Nat):=(rowsOf H v.denil).bind fun rows=>rows.mapM byteR
def pCmp (_:Nat) (args:List AV) (H:Heap):Option (AV×Heap) :=
 match args with
 | [a,b] =>
  match bytesB H a,bytesB H b with
  | some x,some y=>if x.length=y.length then some (.int .i64 (cmpD x y),H) else none
  | _,_=>none
 | _=>none
theorem bytes_mapM:∀{rows:List (List AV)} {x:List Nat},rows.mapM byteR=some x→rows=x.map (fun n:Nat=>[AV.int .u8 (n:Int)])∧∀n∈x,n<256
 | [],x,h=>by simp at h;subst h;simp
 | r::rows,x,h=>by
  rw [List.mapM_cons] at h
  cases hr:byteR r with
  | none=>rw [hr] at h;simp at h
  | some n =>
   rw [hr] at h
   cases hm:rows.mapM byteR with
   | none=>rw [hm] at h;simp at h
   | some y =>
    rw [hm] at h
    simp at h;subst h
    obtain ⟨i1,i2⟩:=bytes_mapM hm
    unfold byteR at hr
    split at hr
    ·rename_i k
     split at hr
     ·rename_i hk
      cases hr
      refine ⟨?_,fun m hm=>?_⟩
      ·rw [List.map_cons,←i1]
       congr 3
       omega
      ·rcases List.mem_cons.1 hm with rfl | hm
       ·omega
       ·exact i2 m hm
     ·cases hr
    ·cases hr
variable {N:Low} {φ:Phi} {H:Heap} {w:World}
theorem bytes_sound (hH:HR N φ H w) {v:AV} {X:Value} (hx:RV φ H.length w v X) {x:List Nat} (h:bytesB H v=some x):(Extern.Bytes.bytesOf X).run Tryz.prog w=.ok ⟨(x.map UInt8.ofNat).toArray⟩ w∧∀n∈x,n<256:=by
 unfold bytesB at h
 cases hr:rowsOf H v.denil with
 | none=>rw [hr] at h;cases h
 | some rows =>
  rw [hr] at h
  obtain ⟨e,hb⟩:=bytes_mapM (rows:=rows) (x:=x) h
  refine ⟨?_,hb⟩
  obtain ⟨base,cap,rfl,_,hc⟩:=rowsOf_sound hH hx.denil hr
  have hlen:rows.length=x.length:=by rw [e];simp
  cases base with
  | none =>
   have h0:rows=[]:=by
    rcases Classical.em (rows=[]) with h | h
    ·exact h
    ·obtain ⟨a,_,h1,_⟩:=hc h;cases h1
   have hx0:x=[]:=List.length_eq_zero_iff.1 (by rw [←hlen,h0];rfl)
   subst hx0
   rfl
  | some a =>
   have hl:=Lib.run_loadBytesX (P:=Tryz.prog) w (x.map fun n:Nat=>(n:Int)) a .empty (fun j n hj=>by
    rw [List.getElem?_map] at hj
    cases hm:x[j]? with
    | none=>rw [hm] at hj;cases hj
    | some m =>
     rw [hm] at hj
     simp at hj;subst hj
     have hne:rows≠[]:=by intro h0;rw [h0] at hlen;have:=(List.getElem?_eq_some_iff.1 hm).1;simp at hlen;omega
     obtain ⟨a',esz,h1,h2,h3⟩:=hc hne
     cases h1
     have hrow:rows[j]?=some [AV.int .u8 m]:=by rw [e,List.getElem?_map,hm];rfl
     obtain ⟨hz,hcell⟩:=h3 j _ hrow
     obtain ⟨_,U,hU,hrv⟩:=hcell 0 _ rfl
     cases hrv
     have hez:esz=1:=hz.symm
     subst hez
     have ha:a.add j=⟨a.block,a.off+j*1+0,none⟩:=by
      cases a;simp only at h2;subst h2;by_cases hj0:j=0<;>simp [Addr.add,hj0]
     rw [ha];exact hU)
   rw [List.length_map] at hl
   have hb2:Lib.bytesOf (x.map fun n:Nat=>(n:Int))=x.map UInt8.ofNat:=by simp [Lib.bytesOf]
   rw [hb2] at hl
   show (Extern.Bytes.loadBytes a rows.length .empty).run Tryz.prog w=_
   rw [hlen,hl]
   congr 1
   apply ByteArray.ext
   show (#[]:Array UInt8)++_=_
   simp
set_option maxRecDepth 100000 in
set_option maxHeartbeats 1000000 in
theorem call_cmp {X Y:Value} {x y:List Nat} (hx:(Extern.Bytes.bytesOf X).run Tryz.prog w=.ok ⟨(x.map UInt8.ofNat).toArray⟩ w) (hy:(Extern.Bytes.bytesOf Y).run Tryz.prog w=.ok ⟨(y.map UInt8.ofNat).toArray⟩ w) (hl:x.length=y.length) (hxb:∀n∈x,n<256) (hyb:∀n∈y,n<256) :
 CallsIn (Fw none) 0 Tryz.prog 128 #[X,Y] w fun e w'=>e=.returned (.int .i64 (cmpD x y))∧w'=w:=by
 have hcmp:(Extern.BytealgCompare.compare #[X,Y]).run Tryz.prog w=.ok (.int .i64 (cmpD x y)) w:=by
  change Sem.run Tryz.prog (do pure (goInt (Extern.BytealgCompare.cmp (←Extern.Bytes.bytesOf X) (←Extern.Bytes.bytesOf Y)))) w=_
  simp only [Sem.run_bind,Sem.run_pure,hx,hy,Result.andThen]
  rw [Lib.cmp_eq,←cmp_bytes hl hxb hyb]
  rfl
 refine callsIn_of_wp Tryz.func128 rfl trivial ?_ rfl
 have hn:Tryz.f128.ntmps=8:=rfl
 simp only [hn,List.size_toArray,List.length_cons,List.length_nil,Nat.reduceAdd,Nat.reduceSub,Array.replicate_succ,Array.replicate_zero,List.push_toArray,List.append_toArray,List.nil_append,List.cons_append]
 gi_wp2
 rw [run_callFunc_extern Tryz.func191 (by kernel_rfl) (by kernel_rfl) (by kernel_rfl) (e:=Extern.BytealgCompare.compare) (by kernel_rfl),hcmp]
 simp only [Result.andThen]
 gi_wp2
 go_ret
 exact ⟨rfl,rfl⟩
end Go.Proofs.Ev
namespace Go.Proofs.Ev
open Go.Proofs
def PrimOK (P:Program) (N:Low) (f:FuncId) (p:Nat→List AV→Heap→Option (AV×Heap)):Prop :=
 (∃fn:Func,P.funcs[f]?=some fn∧fn.body.isSome=true)∧∀base args H v H',p base args H=some (v,H')→∀φ w (Vs:Array Value),base≤H.length→HR N φ H w→Two (fun v V=>RV φ H.length w v V) args Vs.toList→
  CallsIn (Fw none) 0 P f Vs w fun e w'=>∃V φ',e=.returned V∧RV φ' H'.length w' v V∧HR N φ' H' w'∧Ext φ H.length w φ' H'.length w'∧∀b,b<base→H'[b]?=H[b]?
theorem two_two {α β:Type} {R:α→β→Prop} {a b:α} {Vs:Array β} (h:Two R [a,b] Vs.toList):∃X Y,Vs=#[X,Y]∧R a X∧R b Y:=by
 obtain ⟨l⟩:=Vs
 cases h with
 | cons h1 t =>
  cases t with
  | cons h2 t =>
   cases t
   exact ⟨_,_,rfl,h1,h2⟩
theorem two_one {α β:Type} {R:α→β→Prop} {a:α} {Vs:Array β} (h:Two R [a] Vs.toList):∃X,Vs=#[X]∧R a X:=by
 obtain ⟨l⟩:=Vs
 cases h with
 | cons h1 t =>
  cases t
  exact ⟨_,rfl,h1⟩
theorem cmp_ok (N:Low):PrimOK Tryz.prog N 128 pCmp:=by
 refine ⟨⟨_,Tryz.func128,rfl⟩,fun base args H v H' h φ w Vs hb hH ht=>?_⟩
 unfold pCmp at h
 split at h
 ·rename_i a b
  split at h
  ·rename_i x y hx hy
   split at h
   ·rename_i hl
    cases h
    obtain ⟨X,Y,rfl,h1,h2⟩:=two_two ht
    obtain ⟨x1,x2⟩:=bytes_sound hH h1 hx
    obtain ⟨y1,y2⟩:=bytes_sound hH h2 hy
    refine (call_cmp x1 y1 hl x2 y2).mono ?_
    rintro e w' ⟨rfl,rfl⟩
    exact ⟨_,φ,rfl,.int _ _,hH,Ext.refl,fun _ _=>rfl⟩
   ·cases h
  ·cases h
 ·cases h
def pIdx (_:Nat) (args:List AV) (H:Heap):Option (AV×Heap) :=
 match args with
 | [.str s,.int .u8 c]=>some (.int .i64 (Lib.indexByte s c.toNat.toUInt8),H)
 | _=>none
theorem idx_ok (N:Low):PrimOK Tryz.prog N 311 pIdx:=by
 refine ⟨⟨_,Tryz.func311,rfl⟩,fun base args H v H' h φ w Vs hb hH ht=>?_⟩
 unfold pIdx at h
 split at h
 ·rename_i s c
  cases h
  obtain ⟨X,Y,rfl,h1,h2⟩:=two_two ht
  cases h1
  cases h2
  refine (call_indexByte _ _ _).mono ?_
  rintro e w' ⟨rfl,rfl⟩
  exact ⟨_,φ,rfl,.int _ _,hH,Ext.refl,fun _ _=>rfl⟩
 ·cases h
end Go.Proofs.Ev
