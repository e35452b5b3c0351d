/- Part 15 of the proof that quiltlaw38.BlameNames returns true: no statement of its own. -/
import Derived.Test.YtckbkhfaahpanaaGreatDoorN14
set_option linter.all false
namespace Go.Proofs.Ev
open Go.Proofs
variable {C:Cfg}
def atomsQ (p:PatchV):List AtV:=if EncodeE p=0 then (checkL p).map (atR ⟨IdD p,IdD_len p,IdD_byt p⟩) else []
def atomsQK (p:PatchV):SK:=if EncodeE p=0 then exK (checkL p) else .exact
theorem ret_atomsQ (S:Setting8 C) (p:PatchV) (hp:p.Fit):Ret Tryz.prog C 183 [] [.agg p.cells] (.tup [slAV (atomsQK p) ((atomsQ p).map AtV.cells),.int .i64 (EncodeE p)]):=ret_Atoms16 S p hp.ok hp.ok2 hp.atoms hp.atomOver
def atomQ (s:List StoredV) (x:IdV):AtV:=if x.n<0∨((atomsQ (getP s x.d)).length:Int)≤x.n then zeroAt else (atomsQ (getP s x.d)).getD x.n.toNat zeroAt
def atomB (s:List StoredV) (x:IdV):Bool:=!(decide (x.n<0)||decide (((atomsQ (getP s x.d)).length:Int)≤x.n))
set_option maxHeartbeats 1000000 in
theorem ret_atom17 (S:Setting8 C) (l:List StoredV) (k:SK) (x:IdV) (hl:SetFit l):Ret Tryz.prog C 119 [] [slAV k (l.map StoredV.cells),.agg x.cells] (.tup [.agg (atomQ l x).cells,.bool (atomB l x)]):=by
 refine ret_pure (S.pure8 _ (by decide)) fun H=>func_rule Tryz.func119 rfl (S.prim _ (by decide)) (by simp) (by kernel_rfl) ?_
 unfold Tryz.f119
 have g:∀base H K,CallW Tryz.prog C base (.fn 182 []) [slAV k (l.map StoredV.cells),.agg (Ev.dig x.d)] H K=K (.tup [.agg (getP l x.d).cells,.bool (hasS l x.d)]) H:=(ret_get17 S l k x.dv (by have:=hl.n;omega)).eq
 have a:=(ret_atomsQ S _ (getP_fit hl x.d)).eq
 generalize hL:atomsQ (getP l x.d)=L at *
 have hQ:atomQ l x=if x.n<0∨(L.length:Int)≤x.n then zeroAt else L.getD x.n.toNat zeroAt:=by unfold atomQ;rw [hL]
 have hB:atomB l x = !(decide (x.n<0)||decide ((L.length:Int)≤x.n)):=by unfold atomB;rw [hL]
 rw [hQ,hB]
 by_cases h1:x.n<0
 ·simp [argS,g,a,storeA,guardV,h1,fillA]
  exact freeze_two (freeze_closed (v:=.agg _) (AtV.closed _)) (by simp)
 ·by_cases h2:(L.length:Int)≤x.n
  ·simp [argS,g,a,storeA,guardV,h1,h2,fillA]
   exact freeze_two (freeze_closed (v:=.agg _) (AtV.closed _)) (by simp)
  ·have hlt:x.n.toNat<L.length:=by omega
   have hget:L.getD x.n.toNat zeroAt=L[x.n.toNat]:=by rw [List.getD_eq_getElem?_getD,List.getElem?_eq_getElem hlt];rfl
   rw [if_neg (by omega),hget]
   simp [argS,g,a,storeA,guardV,h1,h2,hlt,show 0≤x.n by omega,show x.n<L.length by omega]
   exact freeze_two (freeze_closed (v:=.agg _) (AtV.closed _)) (by simp)
theorem ret_other (S:Setting8 C) (x:IdV):Ret Tryz.prog C 118 [] [.agg x.cells] (.bool (!zeroD x.d)):=by
 refine ret_pure (S.pure8 _ (by decide)) fun H=>func_rule Tryz.func118 rfl (S.prim _ (by decide)) (by simp) (by kernel_rfl) ?_
 unfold Tryz.f118
 have e:=ne_of_eq (eq_dig S.toSetting x.d digest0 x.h (by decide))
 simp [argS,e,fillA,zeroD]
theorem ret_directory (S:Setting8 C) (x:AtV):Ret Tryz.prog C 121 [] [.agg x.cells] (.bool (x.kind==1&&x.type==4)):=by
 refine ret_pure (S.pure8 _ (by decide)) fun H=>func_rule Tryz.func121 rfl (S.prim _ (by decide)) (by simp) (by kernel_rfl) ?_
 unfold Tryz.f121
 simp +contextual [-Bool.not_and,-Bool.not_or,argS,guardV]
theorem ret_complete (S:Setting8 C) (x:IdV) (d:DigV):Ret Tryz.prog C 124 [] [.agg x.cells,.agg d.cells] (.agg (wholeV x d).cells):=by
 refine ret_pure (S.pure8 _ (by decide)) fun H=>func_rule Tryz.func124 rfl (S.prim _ (by decide)) (by simp) (by kernel_rfl) ?_
 unfold Tryz.f124
 have e:=eq_dig S.toSetting x.d digest0 x.h (by decide)
 have hd:(IdV.mk d.d x.n d.h d.b).cells=d.cells++[.int .i64 x.n]:=rfl
 by_cases hn:0≤x.n
 ·by_cases hz:x.d=digest0
  ·have hw:wholeV x d=⟨d.d,x.n,d.h,d.b⟩:=by unfold wholeV;rw [if_pos (by simp [zeroD,hz,hn])]
   rw [hw]
   have e':=e.trans (congrArg (fun b=>some (AV.bool b)) (decide_eq_true hz))
   simp [argS,e',hn,guardV,fillA,storeA,hd]
   rw [←hd]
   generalize IdV.mk d.d x.n d.h d.b=y
   first
    | exact freeze_closed (v:=.agg y.cells) (IdV.closed y)
    | exact ⟨fun v hv=>List.all_eq_true.1 y.leafs v hv,freeze_closed (v:=.agg y.cells) (IdV.closed y)⟩
    | (simp;exact ⟨fun v hv=>List.all_eq_true.1 y.leafs v hv,freeze_closed (v:=.agg y.cells) (IdV.closed y)⟩)
    | trace_state
  ·have hw:wholeV x d=x:=by unfold wholeV;rw [if_neg (by simp [zeroD,hz])]
   rw [hw]
   simp [argS,e,hn,hz,guardV,fillA,storeA]
   exact freeze_closed (v:=.agg x.cells) (IdV.closed x)
 ·have hw:wholeV x d=x:=by unfold wholeV;rw [if_neg (by simp [hn])]
  rw [hw]
  simp [argS,e,hn,guardV,fillA,storeA]
  exact freeze_closed (v:=.agg x.cells) (IdV.closed x)
def endE (s:List StoredV) (x file:IdV) (d:DigV):Int:=if zeroD x.d||sameId x file then 0 else if atomB s x=false then 7 else if fitsEndB (wholeV file d) (atomQ s x)=false then 8 else 0
set_option maxHeartbeats 1000000 in
theorem ret_end (S:Setting8 C) (l:List StoredV) (k:SK) (x file:IdV) (d:DigV) (hl:SetFit l):Ret Tryz.prog C 122 [] [slAV k (l.map StoredV.cells),.agg x.cells,.agg file.cells,.agg d.cells] (.int .i64 (endE l x file d)):=by
 refine ret_pure (S.pure8 _ (by decide)) fun H=>func_rule Tryz.func122 rfl (S.prim _ (by decide)) (by simp) (by kernel_rfl) ?_
 unfold Tryz.f122
 have e:=eq_idV S.toSetting
 have c1:=(ret_other S x).eq
 have c2:=(ret_atom17 S l k x hl).eq
 have c3:=(ret_complete S file d).eq
 have c4:=fun f a=>(ret_fitsEnd S.toSetting f a).eq
 unfold endE
 generalize atomQ l x=Q at *
 generalize atomB l x=B at *
 generalize wholeV file d=W at *
 cases hz:zeroD x.d with
 | true=>simp [argS,c1,hz,guardV]
 | false =>
  cases hs:sameId x file with
  | true=>simp [argS,c1,hz,guardV,e,hs]
  | false =>
   cases B with
   | false=>simp [argS,c1,hz,guardV,e,hs,c2,storeA]
   | true =>
    cases hf:fitsEndB W Q with
    | false=>simp [argS,c1,hz,guardV,e,hs,c2,c3,c4,hf,storeA]
    | true=>simp [argS,c1,hz,guardV,e,hs,c2,c3,c4,hf,storeA]
def overE (s:List StoredV) (c:ChV) (d:DigV):List IdV→Int
 | []=>0
 | x::l=>if zeroD x.d then overE s c d l else if atomB s x=false then 7 else if fitsOverB c.kind (wholeV c.file d) (atomQ s x)=false then 8 else overE s c d l
def chgF (s:List StoredV) (c:ChV):Int:=if zeroD c.file.d then 0 else if atomB s c.file=false then 7 else if fitsFileB c.kind (atomQ s c.file)=false then 8 else 0
def chgP (s:List StoredV) (c:ChV):Int:=if zeroD c.parent.d then 0 else if atomB s c.parent=false then 7 else if ((atomQ s c.parent).kind==1&&(atomQ s c.parent).type==4)=false then 8 else 0
def changeE (s:List StoredV) (c:ChV) (d:DigV):Int:=if chgF s c≠0 then chgF s c else if chgP s c≠0 then chgP s c else if endE s c.after c.file d≠0 then endE s c.after c.file d else if endE s c.before c.file d≠0 then endE s c.before c.file d else overE s c d c.over
set_option maxRecDepth 100000 in
set_option maxHeartbeats 4000000 in
theorem ret_change17 (S:Setting8 C) (l:List StoredV) (k:SK) (c:ChV) (d:DigV) (hl:SetFit l) (hc:c.over.length≤400):Ret Tryz.prog C 71 [] [slAV k (l.map StoredV.cells),.agg c.cells,.agg d.cells] (.int .i64 (changeE l c d)):=by
 refine ret_pure (S.pure8 _ (by decide)) fun H=>func_rule Tryz.func71 rfl (S.prim _ (by decide)) (by simp) (by kernel_rfl) ?_
 unfold Tryz.f71
 have c1:=fun x=>(ret_other S x).eq
 have c2:=fun x=>(ret_atom17 S l k x hl).eq
 have c3:=fun x=>(ret_complete S x d).eq
 have c4:=fun kd a=>(ret_fitsFile S.toSetting kd a).eq
 have c5:=fun a=>(ret_directory S a).eq
 have c6:=fun x=>(ret_end S l k x c.file d hl).eq
 have c7:=fun kd f a=>(ret_fitsOver S.toSetting kd f a).eq
 refine cut (fun s H'=>s 0=slAV k (l.map StoredV.cells)∧s 4=.ptr H.length 0 139 0 0∧s 5=.ptr (H.length+1) 0 32 0 0∧∃J,H'=H++.rows 139 0 [c.cells]::.rows 32 0 [d.cells]::J) ?_ ?_
 ·simp [argS]
 rintro s H' ⟨e0,e4,e5,J,rfl⟩
 refine cut (fun s H'=>chgF l c=0∧s 0=slAV k (l.map StoredV.cells)∧s 4=.ptr H.length 0 139 0 0∧s 5=.ptr (H.length+1) 0 32 0 0∧∃J,H'=H++.rows 139 0 [c.cells]::.rows 32 0 [d.cells]::J) ?_ ?_
 ·cases hz:zeroD c.file.d with
  | true =>
   have hE:chgF l c=0:=by unfold chgF;rw [if_pos hz]
   simp [e0,e4,e5,c1,hz,hE]
  | false =>
   cases hb:atomB l c.file with
   | false =>
    have hE:chgF l c=7:=by unfold chgF;simp [hz,hb]
    have hE2:changeE l c d=7:=by unfold changeE;simp [hE]
    simp [e0,e4,e5,c1,hz,c2,hb,storeA,hE2]
   | true =>
    cases hf:fitsFileB c.kind (atomQ l c.file) with
    | false =>
     have hE:chgF l c=8:=by unfold chgF;simp [hz,hb,hf]
     have hE2:changeE l c d=8:=by unfold changeE;simp [hE]
     simp [e0,e4,e5,c1,hz,c2,hb,storeA,c4,hf,hE2]
    | true =>
     have hE:chgF l c=0:=by unfold chgF;simp [hz,hb,hf]
     simp [e0,e4,e5,c1,hz,c2,hb,storeA,c4,hf,hE]
 clear e0 e4 e5
 rintro s H' ⟨h1,e0,e4,e5,J,rfl⟩
 refine cut (fun s H'=>chgP l c=0∧s 0=slAV k (l.map StoredV.cells)∧s 4=.ptr H.length 0 139 0 0∧s 5=.ptr (H.length+1) 0 32 0 0∧∃J,H'=H++.rows 139 0 [c.cells]::.rows 32 0 [d.cells]::J) ?_ ?_
 ·cases hz:zeroD c.parent.d with
  | true =>
   have hE:chgP l c=0:=by unfold chgP;rw [if_pos hz]
   simp [e0,e4,e5,c1,hz,hE]
  | false =>
   cases hb:atomB l c.parent with
   | false =>
    have hE:chgP l c=7:=by unfold chgP;simp [hz,hb]
    have hE2:changeE l c d=7:=by unfold changeE;simp [hE,h1]
    simp [e0,e4,e5,c1,hz,c2,hb,storeA,hE2]
   | true =>
    cases hf:((atomQ l c.parent).kind==1&&(atomQ l c.parent).type==4) with
    | false =>
     have hE:chgP l c=8:=by unfold chgP;rw [if_neg (by simp [hz]),if_neg (by simp [hb]),if_pos hf]
     have hE2:changeE l c d=8:=by unfold changeE;simp [hE,h1]
     simp [e0,e4,e5,c1,hz,c2,hb,storeA,c5,hf,hE2]
    | true =>
     have hE:chgP l c=0:=by unfold chgP;rw [if_neg (by simp [hz]),if_neg (by simp [hb]),if_neg (by simp [hf])]
     simp [e0,e4,e5,c1,hz,c2,hb,storeA,c5,hf,hE]
 clear e0 e4 e5
 rintro s H' ⟨h2,e0,e4,e5,J,rfl⟩
 by_cases h3:endE l c.after c.file d=0
 ·by_cases h4:endE l c.before c.file d=0
  ·have hE:changeE l c d=overE l c d c.over:=by unfold changeE;simp [h1,h2,h3,h4]
   rw [hE]
   simp [e0,e4,e5,c6,h3,h4]
   refine loop_count c.over.length (fun i s H'=>s 0=slAV k (l.map StoredV.cells)∧s 4=.ptr H.length 0 139 0 0∧s 5=.ptr (H.length+1) 0 32 0 0∧(∃J,H'=H++.rows 139 0 [c.cells]::.rows 32 0 [d.cells]::J)∧s 13=.int .i64 i∧overE l c d c.over=overE l c d (c.over.drop i)) ?_ ?_
   ·exact ⟨e0,e4,e5,⟨J,rfl⟩,rfl,rfl⟩
   clear e0 e4 e5
   rintro i s H' ⟨e0,e4,e5,⟨J,rfl⟩,e13,hv⟩ hi
   by_cases h:i<c.over.length
   ·rw [List.drop_eq_getElem_cons h,overE] at hv
    cases hz:zeroD c.over[i].d with
    | true =>
     rw [if_pos hz] at hv
     simp [e0,e4,e5,e13,h,c1,hz,wrap_succ h (by omega)]
     exact hv
    | false =>
     rw [if_neg (by simp [hz])] at hv
     cases hb:atomB l c.over[i] with
     | false =>
      rw [if_pos hb] at hv
      simp [e0,e4,e5,e13,h,c1,hz,c2,hb,storeA,hv]
     | true =>
      rw [if_neg (by simp [hb])] at hv
      cases hf:fitsOverB c.kind (wholeV c.file d) (atomQ l c.over[i]) with
      | false =>
       rw [if_pos hf] at hv
       simp [e0,e4,e5,e13,h,c1,hz,c2,hb,storeA,c3,c7,hf,hv]
      | true =>
       rw [if_neg (by simp [hf])] at hv
       simp [e0,e4,e5,e13,h,c1,hz,c2,hb,storeA,c3,c7,hf,wrap_succ h (by omega)]
       exact hv
   ·have h':i=c.over.length:=by omega
    subst h'
    rw [List.drop_length,overE] at hv
    simp [e0,e4,e5,e13,hv]
  ·have hE:changeE l c d=endE l c.before c.file d:=by unfold changeE;simp [h1,h2,h3,h4]
   rw [hE]
   simp [e0,e4,e5,c6,h3,h4]
 ·have hE:changeE l c d=endE l c.after c.file d:=by unfold changeE;simp [h1,h2,h3]
  rw [hE]
  simp [e0,e4,e5,c6,h3]
def refsE (s:List StoredV) (d:DigV):List ChV→Int
 | []=>0
 | c::l=>if changeE s c d≠0 then changeE s c d else refsE s d l
theorem ret_refs17 (S:Setting8 C) (l:List StoredV) (k:SK) (p:PatchV) (d:DigV) (hl:SetFit l) (hp:p.Fit):Ret Tryz.prog C 39 [] [slAV k (l.map StoredV.cells),.agg p.cells,.agg d.cells] (.int .i64 (refsE l d p.changes)):=by
 refine ret_pure (S.pure8 _ (by decide)) fun H=>func_rule Tryz.func39 rfl (S.prim _ (by decide)) (by simp) (by kernel_rfl) ?_
 unfold Tryz.f39
 have hcn:=hp.changes
 simp [argS]
 refine loop_count p.changes.length (fun i s H'=>s 0=slAV k (l.map StoredV.cells)∧s 4=.ptr H.length 0 5 0 0∧s 5=.ptr (H.length+1) 0 32 0 0∧H'=H++[.rows 5 0 [p.cells],.rows 32 0 [d.cells]]∧s 7=.int .i64 i∧refsE l d p.changes=refsE l d (p.changes.drop i)) ?_ ?_
 ·exact ⟨rfl,rfl,rfl,rfl,rfl,rfl⟩
 rintro i s H' ⟨e0,e4,e5,rfl,e7,hv⟩ hi
 by_cases h:i<p.changes.length
 ·rw [List.drop_eq_getElem_cons h,refsE] at hv
  have c1:=(ret_change17 S l k p.changes[i] d hl (hp.over _ (List.getElem_mem h))).eq
  by_cases h0:changeE l p.changes[i] d=0
  ·rw [if_neg (by simpa using h0)] at hv
   simp [e0,e4,e5,e7,h,c1,h0,wrap_succ h (by omega)]
   exact hv
  ·rw [if_pos h0] at hv
   simp [e0,e4,e5,e7,h,c1,h0,hv]
 ·have h':i=p.changes.length:=by omega
  subst h'
  rw [List.drop_length,refsE] at hv
  simp [e0,e4,e5,e7,hv]
def chk1 (p:Option DigV):List StoredV→Int
 | []=>0
 | x::l=>if EncodeE x.patch≠0 then EncodeE x.patch else if IdD x.patch≠x.id.d then 13 else if (match p with | none=>false | some y=>decide (0≤cmpD y.d (IdD x.patch)))=true then 9 else chk1 (some x.id) l
theorem chk1_cons (p:Option DigV) (x:StoredV) (l:List StoredV):chk1 p (x::l)=if EncodeE x.patch≠0 then EncodeE x.patch else if IdD x.patch≠x.id.d then 13 else if (match p with | none=>false | some y=>decide (0≤cmpD y.d (IdD x.patch)))=true then 9 else chk1 (some x.id) l:=by cases p<;>rfl
def chk2 (ids:List DigV):List StoredV→Int
 | []=>0
 | x::l=>if allD ids (needsR x.patch).2=false then 19 else chk2 ids l
def chk4 (s:List StoredV):List StoredV→Int
 | []=>0
 | x::l=>if refsE s x.id x.patch.changes≠0 then refsE s x.id x.patch.changes else chk4 s l
def chkE (s:List StoredV):Int:=if chk1 none s≠0 then chk1 none s else if chk2 (s.map fun x=>x.id) s≠0 then chk2 (s.map fun x=>x.id) s else if (ordN s s.length []).length<s.length then 20 else chk4 s s
def prevS (l:List StoredV):Nat→Option DigV
 | 0=>none
 | k+1=>(l[k]?).map fun x=>x.id
set_option maxRecDepth 100000 in
set_option maxHeartbeats 4000000 in
theorem ret_Check17 (S:Setting8 C) (l:List StoredV) (k:SK) (hl:SetFit l):Ret Tryz.prog C 14 [] [slAV k (l.map StoredV.cells)] (.int .i64 (chkE l)):=by
 refine ret_pure (S.pure8 _ (by decide)) fun H=>func_rule Tryz.func14 rfl (S.prim _ (by decide)) (by simp) (by kernel_rfl) ?_
 unfold Tryz.f14
 have hn:=hl.n
 have cmp:∀a b:DigV,∀base H K,CallW Tryz.prog C base (.fn 34 []) [.agg a.cells,.agg b.cells] H K=K (.int .i64 (cmpD a.d b.d)) H:=fun a b=>(ret_cmpD (S.prim _ (by decide)) (S.pure _ (by decide)) a.d b.d a.h b.h).eq
 have eqd:=fun a b=>ne_of_eq (eq_digV S.toSetting a b)
 have cids:=(ret_ids S l k (by omega)).eq
 have cord:=(ret_order17 S l k hl).eq
 simp [argS,show ¬(400:Int)<l.length by omega]
 refine loop_count l.length (fun i s H'=>s 0=slAV k (l.map StoredV.cells)∧(∃J,H'=H++J)∧s 3=.int .i64 i∧chk1 none l=chk1 (prevS l i) (l.drop i)) ?_ ?_
 ·exact ⟨rfl,⟨[],by simp⟩,rfl,rfl⟩
 rintro i s H' ⟨e0,⟨J,rfl⟩,e3,hv⟩ hi
 by_cases h:i<l.length
 ·have hpf:=hl.p _ (List.getElem_mem h)
  have cid:∀base H K,CallW Tryz.prog C base (.fn 33 []) [.agg l[i].patch.cells] H K=K (.tup [.agg (DigV.mk (IdD l[i].patch) (IdD_len _) (IdD_byt _)).cells,.int .i64 (EncodeE l[i].patch)]) H:=(ret_Id16 S.toSetting6 l[i].patch hpf.ok hpf.ok2).eq
  rw [List.drop_eq_getElem_cons h,chk1_cons] at hv
  obtain ⟨D,hD⟩:∃D,D=DigV.mk (IdD l[i].patch) (IdD_len _) (IdD_byt _):=⟨_,rfl⟩
  have hDd:IdD l[i].patch=D.d:=by rw [hD]
  rw [←hD] at cid
  rw [hDd] at hv
  clear hD
  by_cases hE:EncodeE l[i].patch=0
  ·rw [if_neg (by simpa using hE)] at hv
   by_cases hd:D.d=l[i].id.d
   ·rw [if_neg (by simpa using hd)] at hv
    cases i with
    | zero =>
     simp only [prevS] at hv
     simp [e0,e3,h,cid,hE,storeA,eqd,hd,guardV,show digest0.length=32 from rfl,List.drop_of_length_le]
     refine ⟨rfl,?_⟩
     simp only [Bool.false_eq_true,if_false] at hv
     rw [hv];simp [prevS,List.getElem?_eq_getElem h]
    | succ i =>
     have hi1:i<l.length:=by omega
     have hpv:prevS l (i+1)=some l[i].id:=by simp [prevS,List.getElem?_eq_getElem hi1]
     have hpv2:prevS l (i+1+1)=some l[i+1].id:=by simp [prevS,List.getElem?_eq_getElem h]
     rw [hpv] at hv
     simp only [decide_eq_true_eq] at hv
     have w1:IntKind.i64.wrap (i:Int)=i:=wrap_nat (by omega)
     have w2:IntKind.i64.wrap ((i:Int)+1+1)=(i:Int)+1+1:=wrap_in (by omega) (by omega)
     have t1:((i:Int)+1).toNat=i+1:=by omega
     have k1:(0:Int)≤(i:Int)+1∧(i:Int)+1<l.length∧(0:Int)<(i:Int)+1:=by omega
     by_cases hc:0≤cmpD l[i].id.d D.d
     ·rw [if_pos hc] at hv
      have hres:chkE l=9:=by unfold chkE;rw [hv];rfl
      have hc':=hc
      rw [hd] at hc'
      simp [e0,e3,h,hi1,cid,hE,storeA,eqd,hd,guardV,show digest0.length=32 from rfl,List.drop_of_length_le,w1,t1,k1,cmp,hc',hres]
     ·rw [if_neg hc] at hv
      have hc':=hc
      rw [hd] at hc'
      simp [e0,e3,h,hi1,cid,hE,storeA,eqd,hd,guardV,show digest0.length=32 from rfl,List.drop_of_length_le,w1,w2,t1,k1,cmp,hc']
      rw [hv,hpv2]
   ·rw [if_pos hd] at hv
    have hres:chkE l=13:=by unfold chkE;rw [hv];rfl
    simp [e0,e3,h,cid,hE,storeA,eqd,hd,guardV,show digest0.length=32 from rfl,List.drop_of_length_le,hres]
  ·rw [if_pos hE] at hv
   have hres:chkE l=EncodeE l[i].patch:=by unfold chkE;rw [hv,if_pos hE]
   simp [e0,e3,h,cid,hE,storeA,show digest0.length=32 from rfl,hres]
 have h':i=l.length:=by omega
 subst h'
 rw [List.drop_length] at hv
 have h1:chk1 none l=0:=by rw [hv];unfold chk1;cases prevS l l.length<;>rfl
 clear hv
 simp [e0,e3,cids]
 refine loop_count l.length (fun i s H'=>s 0=slAV k (l.map StoredV.cells)∧(∃J,H'=H++J)∧s 6=slAV (exK l) ((l.map fun x=>x.id).map DigV.cells)∧s 7=.int .i64 i∧chk2 (l.map fun x=>x.id) l=chk2 (l.map fun x=>x.id) (l.drop i)) ?_ ?_
 ·exact ⟨e0,⟨J,rfl⟩,by simp,rfl,rfl⟩
 clear e0 e3
 rintro i s H' ⟨e0,⟨J,rfl⟩,e6,e7,hv⟩ hi
 by_cases h:i<l.length
 ·have hpf:=hl.p _ (List.getElem_mem h)
  rw [List.drop_eq_getElem_cons h,chk2] at hv
  have cN:=(ret_needs S.toSetting7 l[i].patch hpf.ok hpf.ok2 hpf.deps hpf.changes hpf.over).eq
  have cA:=((ret_all S.toSetting7 (l.map fun x=>x.id) (needsR l[i].patch).2 (exK l) (needsR l[i].patch).1 (by simp;omega) (needs_len hpf)).ret (by simp only [AV.closeds,AV.closed,slAV_closed (closedss_map DigV.closed _),Bool.and_self])).eq
  cases ha:allD (l.map fun x=>x.id) (needsR l[i].patch).2 with
  | false =>
   rw [if_pos ha] at hv
   have hres:chkE l=19:=by unfold chkE;rw [if_neg (by simpa using h1),hv];rfl
   simp [e0,e7,h,cN,hres]
   rw [e6,cA,ha]
   simp [hres]
  | true =>
   rw [if_neg (by simp [ha])] at hv
   simp [e0,e7,h,cN]
   rw [e6,cA,ha]
   simp [e0,e6,e7,wrap_succ h (by omega)]
   exact ⟨h,hv⟩
 have h':i=l.length:=by omega
 subst h'
 rw [List.drop_length,chk2] at hv
 have h2:=hv
 clear hv
 have hE1:chkE l=if (ordN l l.length []).length<l.length then 20 else chk4 l l:=by unfold chkE;rw [if_neg (by simpa using h1),if_neg (by simpa using h2)]
 by_cases h3:(ordN l l.length []).length<l.length
 ·rw [if_pos h3] at hE1
  simp [e0,e7,cord,h3,hE1]
 rw [if_neg h3] at hE1
 simp [e0,e7,cord,h3]
 refine loop_count l.length (fun i s H'=>s 0=slAV k (l.map StoredV.cells)∧(∃J,H'=H++J)∧s 8=.int .i64 i∧chk4 l l=chk4 l (l.drop i)) ?_ ?_
 ·exact ⟨e0,⟨J,rfl⟩,rfl,rfl⟩
 clear e0 e6 e7
 rintro i s H' ⟨e0,⟨J,rfl⟩,e8,hv⟩ hi
 by_cases h:i<l.length
 ·have hpf:=hl.p _ (List.getElem_mem h)
  rw [List.drop_eq_getElem_cons h,chk4] at hv
  have cR:=(ret_refs17 S l k l[i].patch l[i].id hl hpf).eq
  by_cases h0:refsE l l[i].id l[i].patch.changes=0
  ·rw [if_neg (by simpa using h0)] at hv
   simp [e0,e8,h,cR,h0,wrap_succ h (by omega)]
   exact hv
  ·rw [if_pos h0] at hv
   simp [e0,e8,h,cR,h0,hE1,hv]
 ·have h':i=l.length:=by omega
  subst h'
  rw [List.drop_length,chk4] at hv
  simp [e0,e8,hE1,hv]
def fineB (s:List StoredV):Bool:=!heavyB s&&(chkE s==0)
theorem ret_fine (S:Setting8 C) (l:List StoredV) (k:SK) (hl:SetSz l):Ret Tryz.prog C 5 [] [slAV k (l.map StoredV.cells)] (.bool (fineB l)):=by
 refine ret_pure (S.pure8 _ (by decide)) fun H=>func_rule Tryz.func5 rfl (S.prim _ (by decide)) (by simp) (by kernel_rfl) ?_
 unfold Tryz.f5
 have c1:=(ret_great17 S l k hl).eq
 cases hh:heavyB l with
 | true=>simp [argS,c1,hh,guardV,fineB]
 | false =>
  have c2:=(ret_Check17 S l k (setFit_of hl hh)).eq
  simp [argS,c1,hh,guardV,fineB,c2]
end Go.Proofs.Ev
namespace Go.Proofs.Ev
open Go.Proofs
variable {C:Cfg}
structure SettingA (C:Cfg):Prop extends Setting8 C where
 pureA:∀f,f∈[189,125,190,273,188,127,73,76]→C.pure f=true
 plainA:∀f,f∈[126]→C.pure f=false∧C.frz f=false
theorem and31:∀n:Nat,n<32→0<n→IntKind.u64.wrap (BitVec.ofInt 64 (IntKind.u64.wrap (IntKind.i64.wrap (-(n:Int)))) &&& BitVec.ofInt 64 31).toNat=((32-n:Nat):Int):=by decide
theorem ret_rotl (S:SettingA C) (x:W32) (n:Nat) (h:n<32) (h0:0<n):Ret Tryz.prog C 273 [] [w32 x,.int .i64 (IntKind.i64.wrap (-(n:Int)))] (w32 (rotr x n)):=by
 refine ret_pure (S.pureA _ (by decide)) fun H=>func_rule Tryz.func273 rfl (S.prim _ (by decide)) (by simp) (by kernel_rfl) ?_
 unfold Tryz.f273
 have ha:∀t,binA Tryz.prog C .and t (.int .u64 (IntKind.u64.wrap (IntKind.i64.wrap (-(n:Int))))) (.int .u64 31)=some (.int .u64 ((32-n:Nat):Int)):=fun t=>by
  show some (AV.int .u64 (IntKind.u64.wrap (BitVec.ofInt 64 (IntKind.u64.wrap (IntKind.i64.wrap (-(n:Int)))) &&& BitVec.ofInt 64 31).toNat))=_
  rw [and31 n h h0]
 obtain ⟨m,hm⟩:∃m,m=32-n:=⟨_,rfl⟩
 rw [←hm] at ha
 have e1:=fun t=>w_shl (P:=Tryz.prog) (C:=C) t x .u64 m (by omega)
 have e2:=fun t=>w_shr (P:=Tryz.prog) (C:=C) t x .u64 n (by omega)
 have w1:IntKind.u64.wrap (32-(m:Int))=(n:Int):=by rw [IntWalk.u64_in _ (by omega)];omega
 have hr:rotr x n=x <<< m ||| x >>> n:=by rw [rotr,←hm,BitVec.or_comm]
 have cv:∀H y,convertA Tryz.prog H 3 217 (.int .i64 y)=some (.int .u64 (IntKind.u64.wrap y),H):=fun H y=>by simp [convertA]
 generalize IntKind.i64.wrap (-(n:Int))=y at *
 rw [hr]
 simp [argS,cv,ha,e1,e2,w1,w_or]
theorem ret_right (S:SettingA C) (x:W32) (n:Nat) (h:n<32) (h0:0<n):Ret Tryz.prog C 190 [] [w32 x,.int .i64 (n:Int)] (w32 (rotr x n)):=by
 refine ret_pure (S.pureA _ (by decide)) fun H=>func_rule Tryz.func190 rfl (S.prim _ (by decide)) (by simp) (by kernel_rfl) ?_
 unfold Tryz.f190
 have e:=(ret_rotl S x n h h0).eq
 simp [argS,e]
theorem ret_constantsP (S:SettingA C):Ret Tryz.prog C 189 [] [] (.agg (shaK.map w32)):=by
 refine ret_pure (S.pureA _ (by decide)) fun H=>func_rule Tryz.func189 rfl (S.prim _ (by decide)) (by simp) (by kernel_rfl) ?_
 unfold Tryz.f189
 simp [argS,storeA,fillA]
 rw [freeze_closed (by simp [AV.closed,AV.closeds])]
 rfl
theorem ret_initial (S:SettingA C):Ret Tryz.prog C 125 [] [] (.agg (stW initS)):=by
 refine ret_pure (S.pureA _ (by decide)) fun H=>func_rule Tryz.func125 rfl (S.prim _ (by decide)) (by simp) (by kernel_rfl) ?_
 unfold Tryz.f125
 simp [argS,storeA,fillA]
 rw [freeze_closed (by simp [AV.closed,AV.closeds])]
 rfl
def wacc (block:List UInt8) (t:Nat):Nat→W32
 | 0=>0
 | j+1=>wacc block t j <<< 8 ||| byteW (block.getD (4*t+j) 0)
theorem wacc4 (block:List UInt8) (t:Nat):wacc block t 4=wordAt block t:=by
 simp only [wacc,wordAt]
 generalize byteW (block.getD (4*t) 0)=a
 simp only [Nat.add_zero,BitVec.shiftLeft_or_distrib,←BitVec.shiftLeft_add]
 simp
def wcA (block:List UInt8) (T j:Nat):List AV:=(schC block T).take T++w32 (wacc block T j)::(schC block T).drop (T+1)
theorem wcA_len {block:List UInt8} {T j:Nat} (h:T<64):(wcA block T j).length=64:=by
 have:=schC_len (block:=block) (t:=T) (by omega)
 simp [wcA];omega
theorem wcA_at {block:List UInt8} {T j:Nat} (h:T<64):(wcA block T j)[T]?=some (w32 (wacc block T j)):=by
 have:=schC_len (block:=block) (t:=T) (by omega)
 have hl:((schC block T).take T).length=T:=by simp;omega
 rw [wcA,List.getElem?_append_right (by omega),hl,Nat.sub_self];rfl
theorem wcA_set {block:List UInt8} {T j:Nat} (h:T<64):(wcA block T j).take T++w32 (wacc block T j <<< 8 ||| byteW (block.getD (4*T+j) 0))::(wcA block T j).drop (T+1)=wcA block T (j+1):=by
 have:=schC_len (block:=block) (t:=T) (by omega)
 have hl:((schC block T).take T).length=T:=by simp;omega
 have e1:(wcA block T j).take T=(schC block T).take T:=by rw [wcA,List.take_append_of_le_length (by omega),List.take_of_length_le (by omega)]
 have e2:(wcA block T j).drop (T+1)=(schC block T).drop (T+1):=by rw [wcA,List.drop_append,List.drop_of_length_le (by omega),hl];simp [show T+1-T=1 by omega]
 rw [e1,e2];rfl
theorem wcA_zero {block:List UInt8} {T:Nat} (h:T<64):wcA block T 0=schC block T:=by
 have hl:=schC_len (block:=block) (t:=T) (by omega)
 have hat:(schC block T)[T]?=some (w32 0):=by
  rw [schC,List.getElem?_append_right (by rw [List.length_map,schedL_len];omega),List.length_map,schedL_len,Nat.sub_self,show 64-T=(64-T-1)+1 by omega,List.replicate_succ];rfl
 have h1:T<(schC block T).length:=by omega
 have h2:(schC block T)[T]=w32 0:=by rw [List.getElem?_eq_getElem h1] at hat;exact Option.some.inj hat
 rw [wcA]
 show (schC block T).take T++w32 0::(schC block T).drop (T+1)=_
 rw [←h2,←List.drop_eq_getElem_cons h1,List.take_append_drop]
theorem wcA_four {block:List UInt8} {T:Nat} (h:T<16):wcA block T 4=schC block (T+1):=by
 rw [wcA,wacc4];exact schC_set (by omega) (by rw [if_pos h])
set_option maxRecDepth 100000 in
set_option maxHeartbeats 4000000 in
theorem ret_scheduleP (S:SettingA C) (block:List UInt8) (hb:block.length=64):Ret Tryz.prog C 188 [] [.str block] (.agg ((schedL block 64).map w32)):=by
 refine ret_pure (S.pureA _ (by decide)) fun H=>func_rule Tryz.func188 rfl (S.prim _ (by decide)) (by simp) (by kernel_rfl) ?_
 unfold Tryz.f188
 have sh8:∀t x,binA Tryz.prog C .shl t (w32 x) (.int .u64 8)=some (w32 (x <<< 8)):=fun t x=>w_shl t x .u64 8 (by decide)
 have sr10:∀t x,binA Tryz.prog C .shr t (w32 x) (.int .u64 10)=some (w32 (x >>> 10)):=fun t x=>w_shr t x .u64 10 (by decide)
 have sr3:∀t x,binA Tryz.prog C .shr t (w32 x) (.int .u64 3)=some (w32 (x >>> 3)):=fun t x=>w_shr t x .u64 3 (by decide)
 have r17:∀x base H K,CallW Tryz.prog C base (.fn 190 []) [w32 x,.int .i64 17] H K=K (w32 (rotr x 17)) H:=fun x=>(ret_right S x 17 (by decide) (by decide)).eq
 have r19:∀x base H K,CallW Tryz.prog C base (.fn 190 []) [w32 x,.int .i64 19] H K=K (w32 (rotr x 19)) H:=fun x=>(ret_right S x 19 (by decide) (by decide)).eq
 have r7:∀x base H K,CallW Tryz.prog C base (.fn 190 []) [w32 x,.int .i64 7] H K=K (w32 (rotr x 7)) H:=fun x=>(ret_right S x 7 (by decide) (by decide)).eq
 have r18:∀x base H K,CallW Tryz.prog C base (.fn 190 []) [w32 x,.int .i64 18] H K=K (w32 (rotr x 18)) H:=fun x=>(ret_right S x 18 (by decide) (by decide)).eq
 simp [argS]
 refine loop_count 64 (fun T s H'=>∃(Z:List AV) (J:Heap),Z.length=64∧s 0=.str block∧s 2=.ptr H.length 0 64 0 0∧s 3=.ptr (H.length+1) 0 64 0 0∧s 9=.int .i64 T∧H'=H++.rows 64 0 [Z]::.rows 64 0 [schC block T]::J) ?_ ?_
 ·exact ⟨List.replicate 64 (.int .u32 0),[],rfl,rfl,rfl,rfl,rfl,rfl⟩
 rintro T s H' ⟨Z,J,hZ,e0,e2,e3,e9,rfl⟩ hT
 have hl:=schC_len (block:=block) (t:=T) (by omega)
 by_cases h:T<64
 ·have kT:(T:Int)<64∧T<64∧T+1≤64:=by omega
  by_cases h16:T<16
  ·have k16:(T:Int)<16:=by omega
   obtain ⟨q,hq⟩:∃q,q=4*T:=⟨_,rfl⟩
   have w0:IntKind.i64.wrap (4*(T:Int))=(q:Int):=by rw [wrap_in (by omega) (by omega)];omega
   have w4:IntKind.i64.wrap ((q:Int)+4)=((q+4:Nat):Int):=by rw [wrap_in (by omega) (by omega)];omega
   obtain ⟨q4,hq4⟩:∃q4,q4=q+4:=⟨_,rfl⟩
   rw [←hq4] at w4
   obtain ⟨B,hB⟩:∃B,B=(block.take q4).drop q:=⟨_,rfl⟩
   have hBl:B.length=4:=by rw [hB];simp;omega
   have hBat:∀j,j<4→B[j]?=some (block.getD (q+j) 0):=by
    intro j hj
    rw [hB,List.getElem?_drop,List.getElem?_take,if_pos (by omega),List.getD_eq_getElem?_getD,List.getElem?_eq_getElem (show q+j<block.length by omega)];rfl
   simp [e0,e2,e3,e9,kT,k16,w0,w4,sliceA,boundsA,hb,show (q4:Int)<65 by omega,show (q:Int)<(q4:Int)+1 by omega,←hB,convertA,hBl]
   refine loop_count 4 (fun j s H'=>s 0=.str block∧s 2=.ptr H.length 0 64 0 0∧s 3=.ptr (H.length+1) 0 64 0 0∧s 9=.int .i64 T∧s 4=.int .i64 T∧s 21=.sl (H.length+(J.length+1+1)) 0 1 0 4∧s 22=.int .i64 4∧s 23=.int .i64 j∧H'=H++.rows 64 0 [Z]::.rows 64 0 [wcA block T j]::(J++[.rows 1 0 (B.map fun b=>[.int .u8 b.toNat])])) ?_ ?_
   ·exact ⟨e0,e2,e3,e9,rfl,by simp,rfl,rfl,by rw [wcA_zero kT.2.1]⟩
   clear e0 e2 e3 e9
   rintro j s H' ⟨e0,e2,e3,e9,e4,e21,e22,e23,rfl⟩ hj
   have hwl:=wcA_len (block:=block) (T:=T) (j:=j) kT.2.1
   by_cases hj4:j<4
   ·have hat:=wcA_at (block:=block) (T:=T) (j:=j) kT.2.1
    have hset:=wcA_set (block:=block) (T:=T) (j:=j) kT.2.1
    have hBj:=hBat j hj4
    rw [←hq] at hset
    generalize block.getD (q+j) 0=b at hBj hset
    generalize hwa:wacc block T j=a at hat hset
    generalize hwc:wcA block T j=Wc at *
    simp [-getElem?_pos,List.getElem?_cons_zero,e0,e2,e3,e9,e4,e21,e22,e23,show (j:Int)<4 by omega,hj4,hBj,kT,hat,sh8,convertA,conv_byte,w_or,storeA,hwl,hset,wrap_succ hj4 (by decide)]
   ·have hj':j=4:=by omega
    subst hj'
    rw [wcA_four h16]
    simp [e0,e2,e3,e9,e4,e21,e22,e23,hZ,wrap_succ kT.2.1 (by decide),h]
  ·have k16:¬(T:Int)<16:=by omega
   obtain ⟨j15,hj15⟩:∃j,j=T-15:=⟨_,rfl⟩
   obtain ⟨j2,hj2⟩:∃j,j=T-2:=⟨_,rfl⟩
   obtain ⟨j7,hj7⟩:∃j,j=T-7:=⟨_,rfl⟩
   obtain ⟨j16,hj16⟩:∃j,j=T-16:=⟨_,rfl⟩
   have w15:IntKind.i64.wrap ((T:Int)-15)=(j15:Int):=by rw [wrap_in (by omega) (by omega)];omega
   have w2:IntKind.i64.wrap ((T:Int)-2)=(j2:Int):=by rw [wrap_in (by omega) (by omega)];omega
   have w7:IntKind.i64.wrap ((T:Int)-7)=(j7:Int):=by rw [wrap_in (by omega) (by omega)];omega
   have w16:IntKind.i64.wrap ((T:Int)-16)=(j16:Int):=by rw [wrap_in (by omega) (by omega)];omega
   have a15:=schC_at (block:=block) (t:=T) (j:=j15) (by omega)
   have a2:=schC_at (block:=block) (t:=T) (j:=j2) (by omega)
   have a7:=schC_at (block:=block) (t:=T) (j:=j7) (by omega)
   have a16:=schC_at (block:=block) (t:=T) (j:=j16) (by omega)
   have hset:=schC_set (block:=block) (t:=T) (x:=nextW (schedL block T)) (by omega) (by rw [if_neg (by omega)])
   have hn:nextW (schedL block T)=((rotr ((schedL block T).getD j2 0) 17 ^^^ rotr ((schedL block T).getD j2 0) 19 ^^^ (schedL block T).getD j2 0 >>> 10)+(schedL block T).getD j7 0+(rotr ((schedL block T).getD j15 0) 7 ^^^ rotr ((schedL block T).getD j15 0) 18 ^^^ (schedL block T).getD j15 0 >>> 3))+(schedL block T).getD j16 0:=by
    unfold nextW
    simp only [schedL_len]
    rw [←hj15,←hj2,←hj7,←hj16]
   rw [hn] at hset
   generalize (schedL block T).getD j2 0=b0 at a2 hset
   generalize (schedL block T).getD j7 0=b1 at a7 hset
   generalize (schedL block T).getD j15 0=b2 at a15 hset
   generalize (schedL block T).getD j16 0=b3 at a16 hset
   have k15:(j15:Int)<64∧j15<64:=by omega
   have k2:(j2:Int)<64∧j2<64:=by omega
   have k7:(j7:Int)<64∧j7<64:=by omega
   have kk16:(j16:Int)<64∧j16<64:=by omega
   simp [-getElem?_pos,List.getElem?_cons_zero,e0,e2,e3,e9,k16,w15,w2,w7,w16,a15,a2,a7,a16,k15,k2,k7,kk16,kT,r17,r19,r7,r18,sr10,sr3,w_add,w_xor,storeA,hl]
   rw [kOpsU_turn (h:=by kernel_rfl)]
   simp [h,e0,e2,e3,e9,wrap_succ kT.2.1 (by decide),hl,kT]
   exact ⟨Z,hZ,rfl,hset⟩
 ·have h:T=64:=by omega
  subst h
  have e64:schC block 64=(schedL block 64).map w32:=by simp [schC]
  have l64:=schedL_len block 64
  rw [e64] at hl ⊢
  generalize schedL block 64=W at *
  simp [e0,e2,e3,e9,storeA,hZ,List.take_of_length_le,List.drop_of_length_le (Nat.le_of_eq hZ),l64]
  exact freeze_closed (v:=.agg (W.map w32)) (closeds_w W)
set_option maxRecDepth 100000 in
set_option maxHeartbeats 4000000 in
theorem ret_compress (S:SettingA C) (v0:St8) (block:List UInt8) (hb:block.length=64):Ret Tryz.prog C 127 [] [.agg (stW v0),.str block] (.agg (stW (stepS v0 block))):=by
 refine ret_pure (S.pureA _ (by decide)) fun H=>func_rule Tryz.func127 rfl (S.prim _ (by decide)) (by simp) (by kernel_rfl) ?_
 unfold Tryz.f127
 have r6:∀x base H K,CallW Tryz.prog C base (.fn 190 []) [w32 x,.int .i64 6] H K=K (w32 (rotr x 6)) H:=fun x=>(ret_right S x 6 (by decide) (by decide)).eq
 have r11:∀x base H K,CallW Tryz.prog C base (.fn 190 []) [w32 x,.int .i64 11] H K=K (w32 (rotr x 11)) H:=fun x=>(ret_right S x 11 (by decide) (by decide)).eq
 have r25:∀x base H K,CallW Tryz.prog C base (.fn 190 []) [w32 x,.int .i64 25] H K=K (w32 (rotr x 25)) H:=fun x=>(ret_right S x 25 (by decide) (by decide)).eq
 have r2:∀x base H K,CallW Tryz.prog C base (.fn 190 []) [w32 x,.int .i64 2] H K=K (w32 (rotr x 2)) H:=fun x=>(ret_right S x 2 (by decide) (by decide)).eq
 have r13:∀x base H K,CallW Tryz.prog C base (.fn 190 []) [w32 x,.int .i64 13] H K=K (w32 (rotr x 13)) H:=fun x=>(ret_right S x 13 (by decide) (by decide)).eq
 have r22:∀x base H K,CallW Tryz.prog C base (.fn 190 []) [w32 x,.int .i64 22] H K=K (w32 (rotr x 22)) H:=fun x=>(ret_right S x 22 (by decide) (by decide)).eq
 have c1:=(ret_scheduleP S block hb).eq
 have c2:=(ret_constantsP S).eq
 have l1:((schedL block 64).map w32).length=64:=by rw [List.length_map,schedL_len]
 have l2:(shaK.map w32).length=64:=rfl
 obtain ⟨fW,hfW⟩:∃f:Nat→W32,f=fun t=>(schedL block 64).getD t 0:=⟨_,rfl⟩
 obtain ⟨fK,hfK⟩:∃f:Nat→W32,f=fun t=>shaK.getD t 0:=⟨_,rfl⟩
 have hround:∀t,rounds8 block v0 (t+1)=round8 (rounds8 block v0 t) (fK t) (fW t):=fun t=>by rw [hfK,hfW];rfl
 have hs:∀t,t<64→((schedL block 64).map w32)[t]?=some (w32 (fW t)):=fun t ht=>by
  rw [hfW,List.getElem?_map];simp only;rw [List.getD_eq_getElem?_getD,List.getElem?_eq_getElem (by rw [schedL_len];exact ht)];rfl
 have hk:∀t,t<64→(shaK.map w32)[t]?=some (w32 (fK t)):=fun t ht=>by
  rw [hfK,List.getElem?_map];simp only;rw [List.getD_eq_getElem?_getD,List.getElem?_eq_getElem (show t<shaK.length from ht)];rfl
 have hfin:stepS v0 block=⟨v0.a+(rounds8 block v0 64).a,v0.b+(rounds8 block v0 64).b,v0.c+(rounds8 block v0 64).c,v0.d+(rounds8 block v0 64).d,v0.e+(rounds8 block v0 64).e,v0.f+(rounds8 block v0 64).f,v0.g+(rounds8 block v0 64).g,v0.h+(rounds8 block v0 64).h⟩:=rfl
 rw [hfin]
 have h0:rounds8 block v0 0=v0:=rfl
 have q1:∀x∈(schedL block 64).map w32,x.leaf=true:=by intro x hx;obtain ⟨y,_,rfl⟩:=List.mem_map.1 hx;rfl
 have q2:∀x∈shaK.map w32,x.leaf=true:=by intro x hx;obtain ⟨y,_,rfl⟩:=List.mem_map.1 hx;rfl
 clear hfW hfK
 generalize rounds8 block v0=R at *
 generalize (schedL block 64).map w32=W at *
 generalize shaK.map w32=Kc at *
 simp [argS,stW,storeA,fillA,c1,c2,l1,l2]
 refine ⟨q1,q2,?_⟩
 refine loop_count 64 (fun i s H'=>∃Z,Z.length=8∧s 2=.ptr H.length 0 8 0 0∧s 4=.ptr (H.length+1) 0 8 0 0∧s 5=.ptr (H.length+2) 0 64 0 0∧s 6=.ptr (H.length+3) 0 64 0 0∧s 39=.int .i64 i∧
  s 7=w32 (R i).a∧s 8=w32 (R i).b∧s 9=w32 (R i).c∧s 10=w32 (R i).d∧s 11=w32 (R i).e∧s 12=w32 (R i).f∧s 13=w32 (R i).g∧s 14=w32 (R i).h∧
  H'=H++[.rows 8 0 [stW v0],.rows 8 0 [Z],.rows 64 0 [W],.rows 64 0 [Kc]]) ?_ ?_
 ·refine ⟨List.replicate 8 (.int .u32 0),rfl,rfl,rfl,rfl,rfl,rfl,?_⟩
  rw [h0];exact ⟨rfl,rfl,rfl,rfl,rfl,rfl,rfl,rfl,rfl⟩
 rintro i s H' ⟨Z,hZ,e2,e4,e5,e6,e39,e7,e8,e9,e10,e11,e12,e13,e14,rfl⟩ hi
 by_cases h:i<64
 ·have hs:=hs i h
  have hk:=hk i h
  have hr:=hround i
  have hi64:(i:Int)<64:=by omega
  simp [-getElem?_pos,List.getElem?_cons_zero,stW,e2,e4,e5,e6,e39,e7,e8,e9,e10,e11,e12,e13,e14,hi64,h,hs,hk,r6,r11,r25,r2,r13,r22,w_add,w_xor,w_and,w_not,fillA,storeA,wrap_succ h (by decide)]
  refine ⟨Z,hZ,?_⟩
  rw [hr]
  exact ⟨rfl,rfl,rfl,rfl,rfl,rfl,rfl,rfl,rfl⟩
 have h:i=64:=by omega
 subst h
 clear hround hs hk
 generalize R 64=v at *
 simp [e2,e4,e5,e6,e39,e7,e8,e9,e10,e11,e12,e13,e14,fillA]
 refine loop_count 8 (fun i s H'=>s 2=.ptr H.length 0 8 0 0∧s 4=.ptr (H.length+1) 0 8 0 0∧s 110=.agg (stW v)∧s 111=.int .i64 i∧
  H'=H++[.rows 8 0 [(stW ⟨v0.a+v.a,v0.b+v.b,v0.c+v.c,v0.d+v.d,v0.e+v.e,v0.f+v.f,v0.g+v.g,v0.h+v.h⟩).take i++(stW v0).drop i],.rows 8 0 [Z],.rows 64 0 [W],.rows 64 0 [Kc]]) ?_ ?_
 ·exact ⟨e2,e4,rfl,rfl,rfl⟩
 clear e2 e4 e5 e6 e39 e7 e8 e9 e10 e11 e12 e13 e14
 rintro i s H' ⟨e2,e4,e110,e111,rfl⟩ hi
 by_cases h:i<8
 ·have hk:i=0∨i=1∨i=2∨i=3∨i=4∨i=5∨i=6∨i=7:=by omega
  rcases hk with rfl | rfl | rfl | rfl | rfl | rfl | rfl | rfl
  all_goals
   simp [stW,e2,e4,e110,e111,indexA,partA,w_add,storeA]
   rfl
 have h:i=8:=by omega
 subst h
 simp [stW,e2,e4,e110,e111,storeA,List.drop_of_length_le (Nat.le_of_eq hZ)]
 exact ⟨by omega,freeze_closed rfl⟩
end Go.Proofs.Ev
namespace Go.Proofs.Ev
open Go.Proofs
variable {C:Cfg}
theorem blocks_eq (S:SettingA C) (x:List UInt8) {base:Nat} {H:Heap} (hb:base≤H.length) (K:AV→Heap→Prop) :
 CallW Tryz.prog C base (.fn 126 []) [.str x] H K=K (.fn 187 [.ptr H.length 0 1 0 0]) (H++[.rows 1 0 [[.str x]]]):=by
 refine CallW.eq (call_rule (S.plainA _ (by decide)).1 (S.plainA _ (by decide)).2 (func_rule Tryz.func126 rfl (S.prim _ (by decide)) (by simp) (by kernel_rfl) ?_)) K
 unfold Tryz.f126
 simp [argS]
def bR (b:UInt8):List AV:=[.int .u8 b.toNat]
@[simp] theorem bR_len (b:UInt8):(bR b).length=1:=rfl
theorem bytesA_bR:∀l:List UInt8,bytesA (l.map bR)=some l
 | []=>rfl
 | b::l=>by simp only [List.map_cons,bR,bytesA,bytesA_bR l,Option.map_some,Int.toNat_natCast];simp
theorem app_by {Z J H0:Heap} {n:Nat} (hn:n=Z.length) (hZ:H0.length≤Z.length) {v x:AV} {r ys:List UInt8} (hg:GrowX n 1 J v (r.map bR)) (hx:tailRows (Z++J) (.slice 5) x=some (ys.map bR)) (hb:r.length+ys.length≤2^43) :
 ∃v' J',appendA Tryz.prog H0.length (Z++J) #[227,227] v.denil x=some (v',Z++J')∧GrowX n 1 J' v' ((r++ys).map bR)∧((ys≠[]∨∃b g l,v=.sl b g 1 0 l)→∃b g l,v'=.sl b g 1 0 l):=by
 obtain ⟨v',J',h1,h2,h3⟩:=GrowX.appendG (P:=Tryz.prog) (base:=H0.length) (Z:=Z) (J:=J) (e:=5) (e':=5) (ts:=#[227,227]) (ys:=ys.map bR) (x:=x) (v:=v) (rows:=r.map bR) (by simp) (by simp) sz5 by5 (by simp) (by decide) hn hZ hg (by simp) hx (by simp) (by simp;omega)
 exact ⟨v',J',h1,by simpa using h2,by simpa using h3⟩
set_option maxRecDepth 100000 in
set_option maxHeartbeats 4000000 in
theorem blocks_walk (S:SettingA C) (x:List UInt8) (hx:x.length≤2^40) (H:Heap) (d L:Blk)
 (hy:∀st J blk K,blk.length=64→CallW Tryz.prog C H.length (.yld (H.length+3)) [.str blk] (H++d::.rows 8 0 [stW st]::.rows 1 0 [[.str x]]::L::J) K=K (.bool true) (H++d::.rows 8 0 [stW (stepS st blk)]::.rows 1 0 [[.str x]]::L::J))
 (K:AV→Heap→Prop) (hK:∀J,K (.tup []) (H++d::.rows 8 0 [stW (shaSt x)]::.rows 1 0 [[.str x]]::L::J)) :
 FuncW Tryz.prog C H.length 187 [.yld (H.length+3),.ptr (H.length+2) 0 1 0 0] (H++[d,.rows 8 0 [stW initS],.rows 1 0 [[.str x]],L]) K:=by
 refine func_rule Tryz.func187 rfl (S.prim _ (by decide)) (by simp) (by kernel_rfl) ?_
 unfold Tryz.f187
 obtain ⟨q,hq,hq0,hq1⟩:=padded_len x
 have hsha:shaSt x=stK (padded x) q:=by rw [shaSt,hq,show 64*q / 64=q by omega];rfl
 have h0:stK (padded x) 0=initS:=rfl
 obtain ⟨w,hw⟩:∃w,w=x.length / 64:=⟨_,rfl⟩
 have d1:∀t,binA Tryz.prog C .quo t (.int .i64 (x.length:Int)) (.int .i64 64)=some (.int .i64 (w:Int)):=fun t=>by
  rw [bin_quo (h:=by decide),Int.tdiv_eq_ediv_of_nonneg (by omega),wrap_in (by omega) (by omega)];congr 2;omega
 obtain ⟨wh,hwh⟩:∃wh,wh=64*w:=⟨_,rfl⟩
 have w1:IntKind.i64.wrap ((w:Int)*64)=(wh:Int):=by rw [wrap_in (by omega) (by omega)];omega
 have hpre:padded x=x++(128::List.replicate ((120-(x.length+1) % 64) % 64) 0++lenBytes x.length):=by rw [padded];simp
 have hge:x.length≤64*q:=by rw [←hq,hpre];simp
 simp [argS,d1,w1]
 refine loop_count w (fun i s H'=>s 0=.yld (H.length+3)∧s 1=.ptr (H.length+2) 0 1 0 0∧s 3=.int .i64 (wh:Int)∧s 4=.int .i64 ((64*i:Nat):Int)∧H'=H++[d,.rows 8 0 [stW (stK (padded x) i)],.rows 1 0 [[.str x]],L]) ?_ ?_
 ·exact ⟨rfl,rfl,rfl,rfl,rfl⟩
 rintro i s H' ⟨e0,e1,e3,e4,rfl⟩ hi
 obtain ⟨j,hj⟩:∃j,j=64*i:=⟨_,rfl⟩
 rw [←hj] at e4
 by_cases h:i<w
 ·have w2:IntKind.i64.wrap ((j:Int)+64)=((j+64:Nat):Int):=by rw [wrap_in (by omega) (by omega)];omega
  have hbl:((x.take (j+64)).drop j)=((padded x).drop (64*i)).take 64:=by
   rw [hpre,List.drop_append_of_le_length (by omega),List.take_append_of_le_length (by simp;omega),List.drop_take,hj];congr 1;omega
  have hlen:((x.take (j+64)).drop j).length=64:=by simp;omega
  have hnext:stepS (stK (padded x) i) ((x.take (j+64)).drop j)=stK (padded x) (i+1):=by rw [stK_succ,hbl]
  generalize hj2:j+64=j2 at *
  have cy:=fun K=>hy (stK (padded x) i) [] ((x.take j2).drop j) K hlen
  rw [hnext] at cy
  generalize hB:(x.take j2).drop j=B at *
  simp [e0,e1,e3,e4,w2,sliceA,boundsA,show (j:Int)<wh by omega,show (j2:Int)<(x.length:Int)+1 by omega,show (j:Int)<(j2:Int)+1 by omega,hB,cy]
  exact ⟨h,by omega⟩
 have h:i=w:=by omega
 subst h
 obtain ⟨st,hst⟩:∃st,st=stK (padded x) i:=⟨_,rfl⟩
 rw [←hst]
 obtain ⟨T,hT⟩:∃T,T=x.drop wh:=⟨_,rfl⟩
 have hTl:T.length=x.length-wh:=by rw [hT];simp
 have hTm:T.map (fun b=>[AV.int .u8 (b.toNat:Int)])=T.map bR:=rfl
 obtain ⟨z,hz⟩:∃z,z=(120-(x.length+1) % 64) % 64:=⟨_,rfl⟩
 have hlast:(padded x).drop (64*i)=T++[128]++List.replicate z 0++lenBytes x.length:=by
  rw [hpre,List.drop_append_of_le_length (by omega),←hwh,←hT,←hz];simp
 have hl8:(lenBytes x.length).length=8:=by simp [lenBytes]
 obtain ⟨v1,J1,ha1,hg1,hs1⟩:=app_by (H0:=H) (Z:=H++[d,.rows 8 0 [stW st],.rows 1 0 [[.str x]],L]) (J:=[.rows 1 0 (T.map bR)]) (v:=.sl ((H++[d,Blk.rows 8 0 [stW st],Blk.rows 1 0 [[AV.str x]],L]).length+0) 0 1 0 T.length) (r:=T) (x:=.lst ([128].map bR) true) (ys:=[128]) rfl (by simp) (.inr (.inr ⟨0,0,by simp,rfl⟩)) rfl (by simp;omega)
 have hs1:=hs1 (.inl (by simp))
 simp only [List.append_assoc,List.cons_append,List.nil_append,List.length_append,List.length_cons,List.length_nil,AV.denil,List.map_cons,List.map_nil,bR] at ha1
 have hg1:GrowX (H.length+4) 1 J1 v1 ((T++[128]).map bR):=by simpa using hg1
 simp at ha1
 simp [e0,e1,e3,e4,show ¬(j:Int)<wh by omega,sliceA,boundsA,show (wh:Int)<(x.length:Int)+1 by omega,←hT,convertA,show T.length≤70368744177664 by omega,buildSliceA,fillRows]
 have hTm2:(List.map (fun b=>[AV.int IntKind.u8 (b.toNat:Int)]) T)=List.map bR T:=rfl
 rw [hTm2]
 rw [ha1]
 simp [e0,e1]
 have hlenI:∀{J:Heap} {v:AV} {r:List UInt8} (_:GrowX (H.length+4) 1 J v (r.map bR)) (HH:Heap),lenA Tryz.prog HH 227 v.denil=some (.int .i64 r.length):=fun hg HH=>by
  have:=hg.len (P:=Tryz.prog) (t:=227) (e:=5) (H:=HH) (by simp)
  rwa [List.length_map] at this
 have happ:∀{J:Heap} {v:AV} {r:List UInt8} (b:UInt8) (_:GrowX (H.length+4) 1 J v (r.map bR)) (_:r.length≤2^42),∃v' J',appendA Tryz.prog H.length (H++d::.rows 8 0 [stW st]::.rows 1 0 [[.str x]]::L::J) #[227,227] v.denil (.lst [[.int .u8 b.toNat]] true)=some (v',H++d::.rows 8 0 [stW st]::.rows 1 0 [[.str x]]::L::J')∧GrowX (H.length+4) 1 J' v' ((r++[b]).map bR)∧∃b g l,v'=.sl b g 1 0 l:=by
  intro J v r b hg hr
  obtain ⟨v',J',h1,h2,h3⟩:=app_by (H0:=H) (Z:=H++[d,.rows 8 0 [stW st],.rows 1 0 [[.str x]],L]) (n:=H.length+4) (x:=.lst ([b].map bR) true) (ys:=[b]) (by simp) (by simp) hg rfl (by simp;omega)
  simp only [List.append_assoc,List.cons_append,List.nil_append] at h1
  exact ⟨v',J',h1,h2,h3 (.inl (by simp))⟩
 refine loop_count z (fun k s H'=>s 0=.yld (H.length+3)∧s 1=.ptr (H.length+2) 0 1 0 0∧(∃b g l,s 5=.sl b g 1 0 l)∧∃J,H'=H++d::.rows 8 0 [stW st]::.rows 1 0 [[.str x]]::L::J∧GrowX (H.length+4) 1 J (s 5) ((T++[128]++List.replicate k 0).map bR)) ?_ ?_
 ·exact ⟨e0,e1,hs1,J1,rfl,by simpa using hg1⟩
 clear e0 e1 e3 e4
 rintro k s H' ⟨e0,e1,hs5,J,rfl,hg⟩ hk
 have hln:=hlenI hg
 obtain ⟨n,hn⟩:∃n,n=(T++[128]++List.replicate k 0).length:=⟨_,rfl⟩
 rw [←hn] at hln
 have hn2:n=T.length+1+k:=by rw [hn];simp;omega
 have hrem:∀t,binA Tryz.prog C .rem t (.int .i64 (n:Int)) (.int .i64 64)=some (.int .i64 ((n:Int) % 64)):=fun t=>by
  rw [bin_rem (h:=by decide),Int.tmod_eq_emod_of_nonneg (by omega)]
 by_cases h:k<z
 ·have hne:¬(n:Int) % 64=56:=by omega
  have hnb:((n:Int) % 64 != 56)=true:=by simpa using hne
  obtain ⟨v',J',ha,hg',hs'⟩:=happ 0 hg (by omega)
  have ha':appendA Tryz.prog H.length (H++d::.rows 8 0 [stW st]::.rows 1 0 [[.str x]]::L::J) #[227,227] (s 5).denil (.lst [[.int .u8 0]] true)=some (v',H++d::.rows 8 0 [stW st]::.rows 1 0 [[.str x]]::L::J'):=ha
  have er:T++[128]++List.replicate k 0++[0]=T++[128]++List.replicate (k+1) 0:=by rw [List.replicate_succ'];simp
  rw [er] at hg'
  simp [e0,e1,hln,hrem,hnb,buildSliceA,fillRows,ha',h]
  exact ⟨hs',by simpa using hg'⟩
 have h:k=z:=by omega
 subst h
 have hne:(n:Int) % 64=56:=by omega
 have hnb:((n:Int) % 64 != 56)=false:=by simpa using hne
 simp [e0,e1,hln,hrem,hnb]
 generalize hR:T++[128]++List.replicate k 0=R at *
 refine loop_count 8 (fun k s H'=>s 0=.yld (H.length+3)∧s 1=.ptr (H.length+2) 0 1 0 0∧s 6=.int .i64 (56-8*(k:Int))∧(∃b g l,s 5=.sl b g 1 0 l)∧∃J,H'=H++d::.rows 8 0 [stW st]::.rows 1 0 [[.str x]]::L::J∧GrowX (H.length+4) 1 J (s 5) ((R++(lenBytes x.length).take k).map bR)) ?_ ?_
 ·exact ⟨e0,e1,rfl,hs5,J,rfl,by simpa using hg⟩
 clear e0 e1 hln
 rintro k2 s H' ⟨e0,e1,e6,hs5,J,rfl,hg⟩ hk2
 by_cases h:k2<8
 ·have k56:8*(k2:Int)≤56∧¬56<8*(k2:Int):=by omega
  have w3:IntKind.i64.wrap (56-8*(k2:Int)-8)=56-8*((k2:Int)+1):=by rw [wrap_in (by omega) (by omega)];omega
  have q3:IntKind.u64.wrap ((x.length:Int))=x.length:=IntWalk.u64_in _ (by omega)
  have q4:IntKind.u64.wrap ((x.length:Int)*8)=(x.length:Int)*8:=IntWalk.u64_in _ (by omega)
  obtain ⟨Q,hQ⟩:∃Q:Nat,Q=x.length*8 / 2^(8*(7-k2)):=⟨_,rfl⟩
  have s1:∀t,binA Tryz.prog C .shr t (.int .u64 ((x.length:Int)*8)) (.int .i64 (56-8*(k2:Int)))=some (.int .u64 (Q:Int)):=fun t=>by
   simp only [binA,IntKind.bits]
   rw [if_pos (by omega),hQ]
   have e:min (56-8*(k2:Int)).toNat 64=8*(7-k2):=by omega
   have e2:(((x.length*8:Nat):Int)).fdiv ((2^(8*(7-k2)):Nat):Int)=((x.length*8 / 2^(8*(7-k2)):Nat):Int):=by
    rw [Int.fdiv_eq_ediv_of_nonneg _ (Int.natCast_nonneg _)];rfl
   rw [e,show ((2:Int)^(8*(7-k2)))=((2^(8*(7-k2)):Nat):Int) by simp,show (x.length:Int)*8=((x.length*8:Nat):Int) by omega,e2]
  have hget:(lenBytes x.length)[k2]?=some (UInt8.ofNat Q):=by
   unfold lenBytes
   rw [List.getElem?_map,List.getElem?_range h,hQ,Nat.mod_eq_of_lt (by omega)];rfl
  have et:(lenBytes x.length).take (k2+1)=(lenBytes x.length).take k2++[UInt8.ofNat Q]:=by rw [List.take_add_one,hget];rfl
  have w4:AV.int .u8 (IntKind.u8.wrap (Q:Int))=AV.int .u8 ((UInt8.ofNat Q).toNat:Int):=by
   rw [IntKind.wrap_u8];congr 1
  have hRl:R.length≤2^41:=by rw [←hn,hn2];omega
  obtain ⟨v',J',ha,hg',hs'⟩:=happ (UInt8.ofNat Q) hg (by simp;omega)
  rw [List.append_assoc,←et] at hg'
  have cvi:∀H n,convertA Tryz.prog H 3 276 (.int .i64 n)=some (.int .u64 (IntKind.u64.wrap n),H):=fun H n=>by simp [convertA]
  have cv8:∀H,convertA Tryz.prog H 276 5 (.int .u64 (Q:Int))=some (.int .u8 ((UInt8.ofNat Q).toNat:Int),H):=fun H=>by rw [←w4];simp [convertA]
  generalize (UInt8.ofNat Q).toNat=u at *
  simp [e0,e1,e6,k56,h,cvi,cv8,q3,q4,s1,w3,buildSliceA,fillRows,ha]
  exact ⟨hs',by simpa using hg'⟩
 have h:k2=8:=by omega
 subst h
 rw [List.take_of_length_le (by omega)] at hg
 simp [e0,e1,e6]
 obtain ⟨F,hF⟩:∃F,F=R++lenBytes x.length:=⟨_,rfl⟩
 rw [←hF] at hg hlast
 have hFl:F.length=64*q-64*i:=by rw [←hlast,List.length_drop,hq]
 obtain ⟨b,g,h5,hb⟩:∃b g,s 5=.sl (H.length+4+b) g 1 0 F.length∧J[b]?=some (.rows 1 g (F.map bR)):=by
  obtain ⟨b0,g0,l0,hs5⟩:=hs5
  rcases hg with ⟨_,h4⟩ | h4 | ⟨b,g,h4,hb⟩
  ·rw [hs5] at h4;cases h4
  ·rw [hs5] at h4;cases h4
  ·exact ⟨b,g,by rw [h4,List.length_map],hb⟩
 have hcv:∀st' lo,lo+64≤F.length→convertA Tryz.prog (H++d::.rows 8 0 [stW st']::.rows 1 0 [[.str x]]::L::J) 227 9 (.sl (H.length+4+b) g 1 lo 64)=some (.str ((F.drop lo).take 64),H++d::.rows 8 0 [stW st']::.rows 1 0 [[.str x]]::L::J):=by
  intro st' lo hlo
  have hget:(H++d::.rows 8 0 [stW st']::.rows 1 0 [[.str x]]::L::J)[H.length+4+b]?=some (.rows 1 g (F.map bR)):=by
   rw [show H.length+4+b=H.length+(b+1+1+1+1) by omega,app_get]
   simpa using hb
  simp [convertA,rowsOf,hget,hlo,←List.map_drop,←List.map_take,bytesA_bR]
 refine loop_count (q-i) (fun k s H'=>s 0=.yld (H.length+3)∧s 5=.sl (H.length+4+b) g 1 0 F.length∧s 7=.int .i64 ((64*k:Nat):Int)∧H'=H++d::.rows 8 0 [stW (stK (padded x) (i+k))]::.rows 1 0 [[.str x]]::L::J) ?_ ?_
 ·exact ⟨e0,h5,rfl,by rw [hst];rfl⟩
 clear e0 e1 e6 h5 hs5
 rintro k s H' ⟨e0,e5,e7,rfl⟩ hk
 obtain ⟨m,hm⟩:∃m,m=64*k:=⟨_,rfl⟩
 rw [←hm] at e7
 by_cases h:k<q-i
 ·have w2:IntKind.i64.wrap ((m:Int)+64)=((m+64:Nat):Int):=by rw [wrap_in (by omega) (by omega)];omega
  have hbl:(F.drop m).take 64=((padded x).drop (64*(i+k))).take 64:=by rw [←hlast,List.drop_drop,hm];congr 2;omega
  have hbl2:((F.drop m).take 64).length=64:=by simp;omega
  have cy:=fun K=>hy (stK (padded x) (i+k)) J ((F.drop m).take 64) K hbl2
  have hnext:stepS (stK (padded x) (i+k)) ((F.drop m).take 64)=stK (padded x) (i+(k+1)):=by rw [show i+(k+1)=(i+k)+1 by omega,stK_succ,hbl]
  rw [hnext] at cy
  have cc:=hcv (stK (padded x) (i+k)) m (by omega)
  generalize (F.drop m).take 64=B at *
  obtain ⟨m2,hm2⟩:∃m2,m2=m+64:=⟨_,rfl⟩
  rw [←hm2] at w2
  have hsl:∀t,sliceA Tryz.prog 227 (.sl (H.length+4+b) g 1 0 F.length) (some (.int .i64 (m:Int))) (some (.int .i64 (m2:Int))) t=(match t with | none=>some (.sl (H.length+4+b) g 1 m 64) | some _=>sliceA Tryz.prog 227 (.sl (H.length+4+b) g 1 0 F.length) (some (.int .i64 (m:Int))) (some (.int .i64 (m2:Int))) t):=by
   intro t
   cases t with
   | some t=>rfl
   | none =>
    have hne:¬m2=m:=by omega
    have hlen:m2-m=64:=by omega
    simp [sliceA,boundsA,show (m2:Int)<(F.length:Int)+1 by omega,show (m:Int)<(m2:Int)+1 by omega,hne,hlen]
  simp [e0,e5,e7,w2,show m<F.length by omega,hsl,cc,cy]
  exact ⟨h,by omega⟩
 have h:k=q-i:=by omega
 subst h
 have hfin:shaSt x=stK (padded x) (i+(q-i)):=by rw [hsha];congr 1;omega
 have hK':=hK J
 rw [hfin] at hK'
 simp [e0,e5,e7,show ¬m<F.length by omega]
 exact hK'
end Go.Proofs.Ev
namespace Go.Proofs.Ev
open Go.Proofs
variable {C:Cfg}
set_option maxRecDepth 100000 in
set_option maxHeartbeats 4000000 in
theorem ret_sumP (S:SettingA C) (x:List UInt8) (hx:x.length≤2^40):Ret Tryz.prog C 73 [] [.str x] (.agg (dig (sha x))):=by
 refine ret_pure (S.pureA _ (by decide)) fun H=>func_rule Tryz.func73 rfl (S.prim _ (by decide)) (by simp) (by kernel_rfl) ?_
 unfold Tryz.f73
 have ci:=(ret_initial S).eq
 have hT:∀v:St8,List.take 8 (stW v)=stW v:=fun v=>rfl
 have hl8:∀v:St8,(stW v).length=8:=fun v=>rfl
 have hD8:∀v:St8,List.drop 8 (stW v)=[]:=fun v=>rfl
 have f8:∀v:St8,(stW v).all AV.leaf=true:=fun v=>rfl
 have cb:=fun (H':Heap) hb K=>blocks_eq S x (base:=H.length) (H:=H') hb K
 refine cut (fun s H'=>s 0=.str x∧s 2=.ptr H.length 0 32 0 0∧H'=H++[.rows 32 0 [dig digest0]]) ?_ ?_
 ·simp [argS]
  rfl
 rintro s H' ⟨e0,e2,rfl⟩
 refine cut (fun s H'=>s 0=.str x∧s 2=.ptr H.length 0 32 0 0∧s 3=.ptr (H.length+1) 0 8 0 0∧H'=H++[.rows 32 0 [dig digest0],.rows 8 0 [stW initS]]) ?_ ?_
 ·simp [e0,e2,ci,storeA,hT,hl8]
  exact fun v hv=>List.all_eq_true.1 (f8 initS) v hv
 rintro s H' ⟨e0,e2,e3,rfl⟩
 refine cut (fun s H'=>s 2=.ptr H.length 0 32 0 0∧s 3=.ptr (H.length+1) 0 8 0 0∧∃J,H'=H++.rows 32 0 [dig digest0]::.rows 8 0 [stW (shaSt x)]::J) ?_ ?_
 ·refine cut (fun s' H'=>s' 2=.ptr H.length 0 32 0 0∧s' 3=.ptr (H.length+1) 0 8 0 0∧s' 11=.fn 187 [.ptr (H.length+2) 0 1 0 0]∧H'=H++[.rows 32 0 [dig digest0],.rows 8 0 [stW initS],.rows 1 0 [[.str x]]]) ?_ ?_
  ·simp [e0,e2,e3]
   rw [cb _ (by simp)]
   simp [e2,e3]
  clear e2 e3
  rintro s H' ⟨e2,e3,e11,rfl⟩
  rw [wp_block,wp_range]
  refine range_rule (f:=187) (caps:=[.ptr (H.length+2) 0 1 0 0]) (by simp [e11]) fun l hr=>?_
  have hlen:(H++[Blk.rows 32 0 [dig digest0],Blk.rows 8 0 [stW initS],Blk.rows 1 0 [[AV.str x]]]).length=H.length+3:=by simp
  simp only [hlen,List.append_assoc,List.cons_append,List.nil_append]
  refine blocks_walk S x hx H _ _ ?_ _ ?_
  ·intro st J blk K hb
   have cc:=(ret_compress S st blk hb).eq
   refine CallW.eq (yield_rule hr (hget:=(app_get H _ 3).trans rfl) (by omega) rfl (by decide) (by kernel_rfl) (by kernel_rfl) ?_) K
   simp [e3,cc,storeA,hT,hl8,hD8]
   exact ⟨fun v hv=>List.all_eq_true.1 (f8 _) v hv,rfl⟩
  ·intro J
   rw [afterR_loop ((app_get H _ 3).trans rfl)]
   simp [e2,e3]
 rintro s H' ⟨e2,e3,J,rfl⟩
 have hsl:sha x=digW (shaSt x).list:=rfl
 rw [hsl]
 obtain ⟨v,hv⟩:∃v,v=shaSt x:=⟨_,rfl⟩
 rw [←hv]
 obtain ⟨D,hDd⟩:∃D,D=digW v.list:=⟨_,rfl⟩
 have hD:D.length=32:=by rw [hDd];simp [digW]
 have hDat:∀k,k<32→D[k]?=some (((v.list.getD (k / 4) 0 >>> (24-8*(k % 4))).toNat) % 256):=by
  intro k hk
  rw [hDd,digW,List.getElem?_map,List.getElem?_range hk]
  simp [BitVec.toNat_ushiftRight,Nat.shiftRight_eq_div_pow]
 have hVat:∀k,k<8→(stW v)[k]?=some (w32 (v.list.getD k 0)):=by
  intro k hk
  rw [stW_list,List.getElem?_map,List.getD_eq_getElem?_getD,List.getElem?_eq_getElem (show k<v.list.length from hk)];rfl
 rw [←hDd]
 have l8:=hl8 v
 have t8:=hT v
 clear hDd hv
 generalize stW v=V at *
 generalize v.list=L at *
 simp [e2,e3,l8,t8]
 refine ⟨rfl,?_⟩
 refine loop_count 8 (fun i s H'=>∃J,s 2=.ptr H.length 0 32 0 0∧s 5=.ptr (H.length+(J.length+1+1)) 0 32 0 0∧s 16=.agg V∧s 17=.int .i64 i∧H'=H++.rows 32 0 [dig digest0]::.rows 8 0 [V]::(J++[.rows 32 0 [digC D (4*i)]])) ?_ ?_
 ·exact ⟨J,e2,rfl,rfl,rfl,rfl⟩
 clear e2 e3
 rintro i s H' ⟨J,e2,e5,e16,e17,rfl⟩ hi
 by_cases h:i<8
 ·have hVi:=hVat i h
  generalize hx0:L.getD i 0=X at *
  simp [e2,e5,e16,e17,show (i:Int)<8 by omega,h,indexA,partA,hVi]
  refine ⟨by omega,?_⟩
  refine loop_count 4 (fun k s H'=>s 2=.ptr H.length 0 32 0 0∧s 5=.ptr (H.length+(J.length+1+1)) 0 32 0 0∧s 16=.agg V∧s 17=.int .i64 i∧s 6=.int .i64 i∧s 7=w32 X∧s 21=.int .i64 k∧H'=H++.rows 32 0 [dig digest0]::.rows 8 0 [V]::(J++[.rows 32 0 [digC D (4*i+k)]])) ?_ ?_
  ·exact ⟨e2,e5,e16,e17,rfl,rfl,rfl,rfl⟩
  clear e2 e5 e16 e17
  rintro k s H' ⟨e2,e5,e16,e17,e6,e7,e21,rfl⟩ hk
  have hl:=digC_len (D:=D) (i:=4*i+k) hD (by omega)
  by_cases hk4:k<4
  ·obtain ⟨m,hm⟩:∃m,m=4*i+k:=⟨_,rfl⟩
   obtain ⟨m4,hm4⟩:∃m4,m4=4*i:=⟨_,rfl⟩
   obtain ⟨b,hb⟩:∃b,b=24-8*k:=⟨_,rfl⟩
   obtain ⟨k8,hk8⟩:∃k8,k8=8*k:=⟨_,rfl⟩
   have w1:IntKind.i64.wrap (4*(i:Int))=(m4:Int):=by rw [wrap_in (by omega) (by omega)];omega
   have w2:IntKind.i64.wrap ((m4:Int)+(k:Int))=(m:Int):=by rw [wrap_in (by omega) (by omega)];omega
   have w3:IntKind.i64.wrap (8*(k:Int))=(k8:Int):=by rw [wrap_in (by omega) (by omega)];omega
   have w4:IntKind.i64.wrap (24-(k8:Int))=(b:Int):=by rw [wrap_in (by omega) (by omega)];omega
   have hDk:=hDat m (by omega)
   rw [show m / 4=i by omega,show m % 4=k by omega,←hb,hx0] at hDk
   have sh:=fun t=>w_shr (P:=Tryz.prog) (C:=C) t X .i64 b (by omega)
   have cv:∀H,convertA Tryz.prog H 213 5 (w32 (X >>> b))=some (.int .u8 (((X >>> b).toNat % 256:Nat):Int),H):=fun H=>by
    simp [convertA,w32,IntKind.wrap_u8]
   have hset:=digC_set hD (show m<32 by omega) hDk
   rw [←hm] at hl ⊢
   generalize hn:(X >>> b).toNat % 256=n at *
   have k32:(m:Int)<32∧m<32∧m+1≤32:=by omega
   simp [e2,e5,e16,e17,e6,e7,e21,show (k:Int)<4 by omega,hk4,w1,w2,w3,w4,sh,cv,k32,storeA,hl,hset,wrap_succ hk4 (by decide)]
   congr 1;omega
  ·have hk':k=4:=by omega
   subst hk'
   simp [e2,e5,e16,e17,e6,e7,e21,h,wrap_succ h (by decide)]
   exact ⟨J,rfl,rfl,by congr 1⟩
 ·have h':i=8:=by omega
  subst h'
  have e32:digC D (4*8)=dig D:=by simp [digC,List.take_of_length_le,hD]
  rw [e32]
  have d0:(dig digest0).length=32:=rfl
  simp [e2,e5,e16,e17,storeA,hD,List.take_of_length_le,show digest0.length=32 from rfl]
  have dd:List.drop 32 (dig digest0)=[]:=rfl
  rw [dd,List.append_nil]
  exact freeze_closed (v:=.agg (dig D)) (closeds_dig D)
end Go.Proofs.Ev
