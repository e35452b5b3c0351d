/- Part 17 of the proof that quiltlaw38.BlameNames returns true: no statement of its own. -/
import Derived.Test.YtckbkhfaahpanaaGreatDoorN16
set_option linter.all false
namespace Go.Proofs.Ev
open Go.Proofs
variable {C:Cfg}
theorem enc_list (l:List SX) (k:SK):(listX l k).enc=40::SX.encs l++[41]:=rfl
theorem encs_map {α:Type} {f g:α→SX}:∀{l:List α},(∀x∈l,(f x).enc=(g x).enc)→SX.encs (l.map f)=SX.encs (l.map g)
 | [],_=>rfl
 | x::l,h=>by
  rw [List.map_cons,List.map_cons,SX.encs,SX.encs,h x (by simp),encs_map fun y hy=>h y (by simp [hy])]
theorem enc_over (l:List IdV):(overP l).enc=(overX l).enc:=rfl
theorem enc_lines (l:List (List UInt8)):(linesP l).enc=(linesX l).enc:=rfl
theorem enc_ch (c:ChV) (h1:1≤c.kind) (h2:c.kind≤7):(chP c).enc=(chgX c).enc:=by
 have h:SX.encs (numX c.kind::fieldL c)=SX.encs (chgL c):=by
  have hk:c.kind=1∨c.kind=2∨c.kind=3∨c.kind=4∨c.kind=5∨c.kind=6∨c.kind=7:=by omega
  rcases hk with hk | hk | hk | hk | hk | hk | hk<;>simp [fieldL,chgL,chg1,chg2,chg3,hk,SX.encs,enc_over,enc_lines]
 rw [chP,chgX,enc_list,enc_list,h]
theorem enc_tree (p:PatchV) (hd:∀d∈p.deps,zeroD d.d=false) (hc:∀c∈p.changes,1≤c.kind∧c.kind≤7):(treeP p).enc=(treeX p).enc:=by
 have e1:SX.encs (p.deps.map fun d=>depX d.d)=SX.encs (p.deps.map fun d=>digX d.d):=encs_map fun d h=>by rw [depX,digX,hd d h];rfl
 have e2:SX.encs (p.changes.map chP)=SX.encs (p.changes.map chgX):=encs_map fun c h=>enc_ch c (hc c h).1 (hc c h).2
 rw [treeP,treeX,enc_list,enc_list]
 simp only [SX.encs,enc_list,e1,e2]
def charP (c:UInt8):Bool:=!(decide (c.toNat<97)||decide (122<c.toNat))||!(decide (c.toNat<65)||decide (90<c.toNat))||!(decide (c.toNat<48)||decide (57<c.toNat))||decide (c.toNat=46)||decide (c.toNat=95)||decide (c.toNat=45)
def nameP (s:List UInt8):Bool:=s.all charP&&!s.isEmpty&&decide (s.length≤40)&&s != [46]&&s != [46,46]
structure SettingG (C:Cfg):Prop extends SettingF C where
 pureG:∀f,f∈[250,165]→C.pure f=true
theorem ret_encP (S:SettingG C) (p:PatchV) (hp:p.OkP):Ret Tryz.prog C 165 [] [.agg p.cells] (.tup [.str (if encP (treeP p)=0 then (treeP p).enc else []),.int .i64 (encP (treeP p))]) :=
 ret_pure (S.pureG _ (by decide)) fun H=>encode_main S.toSettingF p hp H
theorem ret_isName (S:SettingG C) (s:List UInt8) (hs:s.length≤2^40):Ret Tryz.prog C 250 [] [.str s] (.bool (nameP s)):=by
 refine ret_pure (S.pureG _ (by decide)) fun H=>func_rule Tryz.func250 rfl (S.prim _ (by decide)) (by simp) (by kernel_rfl) ?_
 unfold Tryz.f250
 have hn:nameP s=(s.all charP&&(!s.isEmpty&&decide (s.length≤40)&&s != [46]&&s != [46,46])):=by unfold nameP;simp only [Bool.and_assoc]
 rw [hn]
 refine cut (fun t H'=>t 0=.str s∧H'=H) ?_ ?_
 ·simp [argS]
 rintro t H' ⟨q0,hH⟩
 refine cut (fun t H''=>s.all charP=true∧t 0=.str s∧H''=H) ?_ ?_
 ·simp [q0,hH]
  refine loop_count s.length (fun i t H''=>(s.take i).all charP=true∧t 0=.str s∧t 6=.int .i64 s.length∧t 7=.int .i64 i∧H''=H) ?_ ?_
  ·exact ⟨by simp,q0,rfl,rfl,rfl⟩
  rintro i t H'' ⟨ha,q0,q6,q7,hH⟩ hi
  subst hH
  by_cases h:i<s.length
  ·have et:s.take (i+1)=s.take i++[s[i]]:=by rw [List.take_add_one,List.getElem?_eq_getElem h];rfl
   have fin:∀b,charP s[i]=b→(b=true→(s.take (i+1)).all charP=true)∧(b=false→s.all charP=false):=fun b hb=>⟨fun h1=>by
    rw [et,List.all_append,ha];simp [hb,h1],fun h1=>by
    rw [←List.take_append_drop (i+1) s,List.all_append,et,List.all_append];simp [hb,h1]⟩
   unfold charP at fin
   generalize hnn:s[i].toNat=n at fin
   have cs:(n<48∧n=46)∨(n<48∧n=45)∨(n<48∧n≠46∧n≠45)∨(48≤n∧n≤57)∨(58≤n∧n≤64)∨(65≤n∧n≤90)∨(91≤n∧n≤96∧n=95)∨(91≤n∧n≤96∧n≠95)∨(97≤n∧n≤122)∨(123≤n):=by omega
   rcases cs with hc | hc | hc | hc | hc | hc | hc | hc | hc | hc
   ·simp [q0,q6,q7,h,hnn,guardV,show (n:Int)<97 by omega,show ¬((122:Int)<n) by omega,show (n:Int)<65 by omega,show ¬((90:Int)<n) by omega,show (n:Int)<48 by omega,show ¬((57:Int)<n) by omega,show ((n:Int) != 46)=false by simp;omega,show ((n:Int) != 95)=true by simp;omega,show ((n:Int) != 45)=true by simp;omega,wrap_succ h (by omega)]
    exact List.all_eq_true.1 ((fin _ rfl).1 (by simp;omega))
   ·simp [q0,q6,q7,h,hnn,guardV,show (n:Int)<97 by omega,show ¬((122:Int)<n) by omega,show (n:Int)<65 by omega,show ¬((90:Int)<n) by omega,show (n:Int)<48 by omega,show ¬((57:Int)<n) by omega,show ((n:Int) != 46)=true by simp;omega,show ((n:Int) != 95)=true by simp;omega,show ((n:Int) != 45)=false by simp;omega,wrap_succ h (by omega)]
    exact List.all_eq_true.1 ((fin _ rfl).1 (by simp;omega))
   ·simp [q0,q6,q7,h,hnn,guardV,show (n:Int)<97 by omega,show ¬((122:Int)<n) by omega,show (n:Int)<65 by omega,show ¬((90:Int)<n) by omega,show (n:Int)<48 by omega,show ¬((57:Int)<n) by omega,show ((n:Int) != 46)=true by simp;omega,show ((n:Int) != 95)=true by simp;omega,show ((n:Int) != 45)=true by simp;omega,wrap_succ h (by omega)]
    intro hall
    have h1:s.all charP=false:=(fin _ rfl).2 (by simp;omega)
    rw [List.all_eq_true.2 hall] at h1
    cases h1
   ·simp [q0,q6,q7,h,hnn,guardV,show (n:Int)<97 by omega,show ¬((122:Int)<n) by omega,show (n:Int)<65 by omega,show ¬((90:Int)<n) by omega,show ¬((n:Int)<48) by omega,show ¬((57:Int)<n) by omega,show ((n:Int) != 46)=true by simp;omega,show ((n:Int) != 95)=true by simp;omega,show ((n:Int) != 45)=true by simp;omega,wrap_succ h (by omega)]
    exact List.all_eq_true.1 ((fin _ rfl).1 (by simp;omega))
   ·simp [q0,q6,q7,h,hnn,guardV,show (n:Int)<97 by omega,show ¬((122:Int)<n) by omega,show (n:Int)<65 by omega,show ¬((90:Int)<n) by omega,show ¬((n:Int)<48) by omega,show (57:Int)<n by omega,show ((n:Int) != 46)=true by simp;omega,show ((n:Int) != 95)=true by simp;omega,show ((n:Int) != 45)=true by simp;omega,wrap_succ h (by omega)]
    intro hall
    have h1:s.all charP=false:=(fin _ rfl).2 (by simp;omega)
    rw [List.all_eq_true.2 hall] at h1
    cases h1
   ·simp [q0,q6,q7,h,hnn,guardV,show (n:Int)<97 by omega,show ¬((122:Int)<n) by omega,show ¬((n:Int)<65) by omega,show ¬((90:Int)<n) by omega,show ¬((n:Int)<48) by omega,show (57:Int)<n by omega,show ((n:Int) != 46)=true by simp;omega,show ((n:Int) != 95)=true by simp;omega,show ((n:Int) != 45)=true by simp;omega,wrap_succ h (by omega)]
    exact List.all_eq_true.1 ((fin _ rfl).1 (by simp;omega))
   ·simp [q0,q6,q7,h,hnn,guardV,show (n:Int)<97 by omega,show ¬((122:Int)<n) by omega,show ¬((n:Int)<65) by omega,show (90:Int)<n by omega,show ¬((n:Int)<48) by omega,show (57:Int)<n by omega,show ((n:Int) != 46)=true by simp;omega,show ((n:Int) != 95)=false by simp;omega,show ((n:Int) != 45)=true by simp;omega,wrap_succ h (by omega)]
    exact List.all_eq_true.1 ((fin _ rfl).1 (by simp;omega))
   ·simp [q0,q6,q7,h,hnn,guardV,show (n:Int)<97 by omega,show ¬((122:Int)<n) by omega,show ¬((n:Int)<65) by omega,show (90:Int)<n by omega,show ¬((n:Int)<48) by omega,show (57:Int)<n by omega,show ((n:Int) != 46)=true by simp;omega,show ((n:Int) != 95)=true by simp;omega,show ((n:Int) != 45)=true by simp;omega,wrap_succ h (by omega)]
    intro hall
    have h1:s.all charP=false:=(fin _ rfl).2 (by simp;omega)
    rw [List.all_eq_true.2 hall] at h1
    cases h1
   ·simp [q0,q6,q7,h,hnn,guardV,show ¬((n:Int)<97) by omega,show ¬((122:Int)<n) by omega,show ¬((n:Int)<65) by omega,show (90:Int)<n by omega,show ¬((n:Int)<48) by omega,show (57:Int)<n by omega,show ((n:Int) != 46)=true by simp;omega,show ((n:Int) != 95)=true by simp;omega,show ((n:Int) != 45)=true by simp;omega,wrap_succ h (by omega)]
    exact List.all_eq_true.1 ((fin _ rfl).1 (by simp;omega))
   ·simp [q0,q6,q7,h,hnn,guardV,show ¬((n:Int)<97) by omega,show (122:Int)<n by omega,show ¬((n:Int)<65) by omega,show (90:Int)<n by omega,show ¬((n:Int)<48) by omega,show (57:Int)<n by omega,show ((n:Int) != 46)=true by simp;omega,show ((n:Int) != 95)=true by simp;omega,show ((n:Int) != 45)=true by simp;omega,wrap_succ h (by omega)]
    intro hall
    have h1:s.all charP=false:=(fin _ rfl).2 (by simp;omega)
    rw [List.all_eq_true.2 hall] at h1
    cases h1
  ·have h':i=s.length:=by omega
   subst h'
   rw [List.take_length] at ha
   simp [q0,q6,q7]
   exact List.all_eq_true.1 ha
 rintro t H'' ⟨ha,q0,hH⟩
 rw [ha]
 by_cases hs0:s=[]
 ·subst hs0
  simp [q0,guardV]
 have b0:s.isEmpty=false:=by cases s with | nil=>exact absurd rfl hs0 | cons=>rfl
 by_cases h40:s.length≤40
 ·have h40':(s.length:Int)≤40:=by omega
  by_cases hd1:s=[46]
  ·subst hd1
   simp [q0,guardV]
  ·have c1:(s==[46])=false:=by simpa using hd1
   by_cases hd2:s=[46,46]
   ·subst hd2
    simp [q0,guardV]
   ·have c2:(s==[46,46])=false:=by simpa using hd2
    simp [q0,guardV,b0,h40,h40',c1,c2]
    exact ⟨hd1,hd2⟩
 ·have h40':¬(s.length:Int)≤40:=by omega
  simp [q0,guardV,b0,h40,h40']
end Go.Proofs.Ev
namespace Go.Proofs.Ev
open Go.Proofs
variable {C:Cfg}
structure SettingH (C:Cfg):Prop extends SettingG C where
 cmpB:∀{base:Nat} {H:Heap} {a b:AV} {x y:List Nat},x.length=y.length→(∀n∈x,n<256)→(∀n∈y,n<256)→rowsOf H a.denil=some ((dig x).map fun c=>[c])→rowsOf H b.denil=some ((dig y).map fun c=>[c])→∀K:AV→Heap→Prop,
  CallW Tryz.prog C base (.fn 128 []) [a,b] H K=K (.int .i64 (cmpD x y)) H
 pureH:∀f,f∈[76,161]→C.pure f=true
theorem ret_cmpP (S:SettingH C) (x y:DigV):Ret Tryz.prog C 76 [] [.agg x.cells,.agg y.cells] (.int .i64 (cmpD x.d y.d)):=by
 refine ret_pure (S.pureH _ (by decide)) fun H=>func_rule Tryz.func76 rfl (S.prim _ (by decide)) (by simp) (by kernel_rfl) ?_
 unfold Tryz.f76
 have hx:x.d.length=32:=x.h
 have hy:y.d.length=32:=y.h
 have e1:=S.cmpB (base:=H.length) (H:=H++[.rows 32 0 [dig x.d],.rows 32 0 [dig y.d]]) (a:=.asl H.length 0 32 0 0 32) (b:=.asl (H.length+1) 0 32 0 0 32) (x:=x.d) (y:=y.d) (by rw [hx,hy]) x.b y.b (by simp [AV.denil,rowsOf,hx,List.take_of_length_le]) (by simp [AV.denil,rowsOf,hy,List.take_of_length_le])
 have hdx:x.cells=dig x.d:=rfl
 have hdy:y.cells=dig y.d:=rfl
 simp [argS,hdx,hdy,hx,hy,sliceA,boundsA,e1]
def headP (p:PatchV):Int :=
 if nameP p.author=false then 5 else if 1000<p.message.length then 4 else if p.time<0∨1099511627776<p.time then 2 else if 100<p.deps.length then 4
 else if depsL none p.deps≠0 then depsL none p.deps else if p.changes.length=0 then 1 else if 400<p.changes.length then 4 else 0
set_option maxHeartbeats 2000000 in
theorem ret_head (S:SettingH C) (p:PatchV) (ha:p.author.length≤2^40):Ret Tryz.prog C 161 [] [.agg p.cells] (.int .i64 (headP p)):=by
 refine ret_pure (S.pureH _ (by decide)) fun H=>func_rule Tryz.func161 rfl (S.prim _ (by decide)) (by simp) (by kernel_rfl) ?_
 unfold Tryz.f161 headP
 have e0:=(ret_isName S.toSettingG p.author ha).eq
 refine cut (fun s H'=>s 1=.ptr H.length 0 5 0 0∧H'=H++[.rows 5 0 [p.cells]]) ?_ ?_
 ·simp [argS]
 rintro s H' ⟨q1,rfl⟩
 refine cut (fun s H'=>(nameP p.author=true∧p.message.length≤1000∧0≤p.time∧p.time≤1099511627776∧p.deps.length≤100)∧s 1=.ptr H.length 0 5 0 0∧H'=H++[.rows 5 0 [p.cells]]) ?_ ?_
 ·cases h1:nameP p.author with
  | false=>simp [q1,e0,h1]
  | true =>
   by_cases h2:1000<p.message.length
   ·simp [q1,e0,h1,h2,show (1000:Int)<p.message.length by omega]
   by_cases h3:p.time<0
   ·simp [q1,e0,h1,h2,h3,guardV,show ¬(1000:Int)<p.message.length by omega]
   by_cases h4:1099511627776<p.time
   ·simp [q1,e0,h1,h2,h3,h4,guardV,show ¬(1000:Int)<p.message.length by omega]
   by_cases h5:100<p.deps.length
   ·simp [q1,e0,h1,h2,h3,h4,h5,guardV,show ¬(1000:Int)<p.message.length by omega,show (100:Int)<p.deps.length by omega]
   ·simp [q1,e0,h1,h2,h3,h4,h5,guardV,show ¬(1000:Int)<p.message.length by omega,show ¬(100:Int)<p.deps.length by omega]
    omega
 rintro s H' ⟨⟨h1,h2,h3,h4,h5⟩,q1,rfl⟩
 rw [h1,if_neg (by decide),if_neg (by omega),if_neg (by omega),if_neg (by omega)]
 refine cut (fun s H'=>depsL none p.deps=0∧s 1=.ptr H.length 0 5 0 0∧∃J,H'=H++.rows 5 0 [p.cells]::J) ?_ ?_
 ·simp [q1]
  refine loop_count p.deps.length (fun i s H'=>depsL none p.deps=depsL (prevD p.deps i) (p.deps.drop i)∧s 1=.ptr H.length 0 5 0 0∧s 31=slAV p.depsK (p.deps.map DigV.cells)∧s 32=.int .i64 p.deps.length∧s 33=.int .i64 i∧∃J,H'=H++.rows 5 0 [p.cells]::J) ?_ ?_
  ·exact ⟨rfl,q1,rfl,rfl,rfl,[],rfl⟩
  rintro i s H' ⟨hc,q1,q31,q32,q33,J,rfl⟩ hi
  by_cases h:i<p.deps.length
  ·rw [List.drop_eq_getElem_cons h] at hc
   simp only [depsL] at hc
   have hdl:p.deps[i].cells=dig p.deps[i].d:=rfl
   have h32:p.deps[i].d.length=32:=p.deps[i].h
   have hd0:digest0.length=32:=by decide
   have ht:List.take 32 (dig p.deps[i].d)=dig p.deps[i].d:=List.take_of_length_le (by simp [dig,h32])
   have hr0:List.drop 32 (dig digest0)=[]:=by decide
   have hlf:∀x∈dig p.deps[i].d,x.leaf=true:=by intro x hx;obtain ⟨n,_,rfl⟩:=List.mem_map.1 hx;rfl
   have ez:=eq_dig S.toSetting p.deps[i].d digest0 h32 (by decide)
   cases hz:zeroD p.deps[i].d with
   | true =>
    rw [if_pos hz] at hc
    have hz':p.deps[i].d=digest0:=by simpa [zeroD] using hz
    simp [q1,q31,q32,q33,h,hdl,h32,hd0,ht,hr0,hlf,storeA,fillA,ez]
    refine ⟨fun _=>?_,fun hne=>absurd hz' hne⟩
    rw [hc];simp
   | false =>
    rw [if_neg (by simp [hz])] at hc
    have hz':¬p.deps[i].d=digest0:=by simpa [zeroD] using hz
    cases i with
    | zero =>
     simp [q1,q31,q32,q33,h,hdl,h32,hd0,ht,hr0,hlf,storeA,fillA,ez,hz',guardV]
     refine ⟨?_,rfl⟩
     simpa [prevD,List.getElem?_eq_getElem h] using hc
    | succ i =>
     have hk1:i<p.deps.length:=by omega
     have e2:=(ret_cmpP S p.deps[i] p.deps[i+1]).eq
     have w1:IntKind.i64.wrap (i:Int)=i:=wrap_nat (by omega)
     have w2:IntKind.i64.wrap ((i:Int)+1+1)=((i+2:Nat):Int):=by rw [wrap_in (by omega) (by omega)];omega
     have t1:((i:Int)+1).toNat=i+1:=by omega
     have t2:(0:Int)≤(i:Int)+1:=by omega
     have t3:(i:Int)+1<p.deps.length:=by omega
     have t4:(0:Int)<(i:Int)+1:=by omega
     have hdl2:p.deps[i].cells=dig p.deps[i].d:=rfl
     have h322:p.deps[i].d.length=32:=p.deps[i].h
     have ht2:List.take 32 (dig p.deps[i].d)=dig p.deps[i].d:=List.take_of_length_le (by simp [dig,h322])
     simp only [hdl,hdl2] at e2
     simp only [prevD,List.getElem?_eq_getElem hk1] at hc
     simp [q1,q31,q32,q33,h,hdl,h32,hd0,ht,hr0,hlf,storeA,fillA,ez,hz',guardV,w1,w2,t1,t2,t3,t4,hk1,hdl2,h322,ht2,e2]
     refine ⟨fun h5=>?_,fun h5=>⟨?_,by omega⟩⟩
     ·simp only [h5,decide_true,if_true] at hc
      rw [hc];simp
     ·simp only [show ¬0≤cmpD p.deps[i].d p.deps[i+1].d by omega,decide_false,Bool.false_eq_true,if_false] at hc
      simpa [prevD,List.getElem?_eq_getElem h] using hc
  ·have h':i=p.deps.length:=by omega
   subst h'
   rw [List.drop_length] at hc
   simp only [depsL] at hc
   simp [q1,q31,q32,q33,hc]
 rintro s H' ⟨hc,q1,J,rfl⟩
 rw [hc]
 by_cases h6:p.changes.length=0
 ·have h6':p.changes=[]:=List.length_eq_zero_iff.1 h6
  simp [q1,h6']
 ·by_cases h7:400<p.changes.length
  ·simp [q1,h6,h7,show (400:Int)<p.changes.length by omega,show ¬(p.changes.length:Int)=0 by omega]
  ·simp [q1,h6,h7,show ¬(400:Int)<p.changes.length by omega,show ¬(p.changes.length:Int)=0 by omega]
end Go.Proofs.Ev
namespace Go.Proofs.Ev
open Go.Proofs
variable {C:Cfg}
structure SettingI (C:Cfg):Prop extends SettingH C where
 pureI:∀f,f∈[222,150,91,369,310]→C.pure f=true
def cmpN (a b:Int):Int:=if a<b then -1 else if b<a then 1 else 0
theorem ret_isNaN (S:SettingI C) (a:Int):Ret Tryz.prog C 222 [] [.int .i64 a] (.bool false):=by
 refine ret_pure (S.pureI _ (by decide)) fun H=>func_rule Tryz.func222 rfl (S.prim _ (by decide)) (by simp) (by kernel_rfl) ?_
 unfold Tryz.f222
 simp [argS]
theorem ret_cmpN (S:SettingI C) (a b:Int):Ret Tryz.prog C 150 [] [.int .i64 a,.int .i64 b] (.int .i64 (cmpN a b)):=by
 refine ret_pure (S.pureI _ (by decide)) fun H=>func_rule Tryz.func150 rfl (S.prim _ (by decide)) (by simp) (by kernel_rfl) ?_
 unfold Tryz.f150 cmpN
 have e:=fun x=>(ret_isNaN S x).eq
 by_cases h1:a<b
 ·simp [argS,e,h1]
 ·by_cases h2:b<a
  ·simp [argS,e,h1,h2]
  ·simp [argS,e,h1,h2]
theorem ret_cmpIP (S:SettingI C) (a b:IdV):Ret Tryz.prog C 91 [] [.agg a.cells,.agg b.cells] (.int .i64 (cmpI a b)):=by
 refine ret_pure (S.pureI _ (by decide)) fun H=>func_rule Tryz.func91 rfl (S.prim _ (by decide)) (by simp) (by kernel_rfl) ?_
 unfold Tryz.f91
 have hx:a.d.length=32:=a.h
 have hy:b.d.length=32:=b.h
 have e2:=fun x y=>(ret_cmpN S x y).eq
 have e1:=S.cmpB (base:=H.length) (H:=H++[.rows 33 0 [a.cells],.rows 33 0 [b.cells]]) (a:=.asl H.length 0 33 0 0 32) (b:=.asl (H.length+1) 0 33 0 0 32) (x:=a.d) (y:=b.d) (by rw [hx,hy]) a.b b.b (by simp [AV.denil,rowsOf]) (by simp [AV.denil,rowsOf])
 by_cases hc:cmpD a.d b.d=0
 ·have hI:cmpI a b=cmpN a.n b.n:=by unfold cmpI cmpN;rw [if_pos hc]
  rw [hI]
  simp [argS,sliceA,boundsA,e1,e2,hc]
 ·have hI:cmpI a b=cmpD a.d b.d:=by unfold cmpI;rw [if_neg hc]
  rw [hI]
  simp [argS,sliceA,boundsA,e1,e2,hc]
def idxI:List Int→Int→Int→Int
 | [],_,_=>-1
 | x::l,v,i=>if v=x then i else idxI l v (i+1)
theorem ret_index (S:SettingI C) (l:List Int) (k:SK) (v:Int) (hl:l.length≤2^40):Ret Tryz.prog C 369 [] [slAV k (l.map fun x=>[.int .i64 x]),.int .i64 v] (.int .i64 (idxI l v 0)):=by
 refine ret_pure (S.pureI _ (by decide)) fun H=>func_rule Tryz.func369 rfl (S.prim _ (by decide)) (by simp) (by kernel_rfl) ?_
 unfold Tryz.f369
 simp [argS]
 refine loop_count l.length (fun i s H'=>s 0=slAV k (l.map fun x=>[.int .i64 x])∧s 1=.int .i64 v∧s 7=.int .i64 l.length∧s 8=.int .i64 i∧H'=H∧idxI l v 0=idxI (l.drop i) v i) ?_ ?_
 ·exact ⟨rfl,rfl,rfl,rfl,rfl,rfl⟩
 rintro i s H' ⟨q0,q1,q7,q8,rfl,hc⟩ hi
 by_cases h:i<l.length
 ·rw [List.drop_eq_getElem_cons h,idxI] at hc
  by_cases hv:v=l[i]
  ·rw [if_pos hv] at hc
   simp [q0,q1,q7,q8,h,hc,←hv]
  ·rw [if_neg hv] at hc
   simp [q0,q1,q7,q8,h,hc,hv,wrap_succ h (by omega)]
 ·have h':i=l.length:=by omega
  subst h'
  rw [List.drop_length,idxI] at hc
  simp [q0,q1,q7,q8,hc]
theorem idxI_mem:∀(l:List Int) (v i:Int),0≤i→(0≤idxI l v i↔v∈l)
 | [],v,i,_=>by simp [idxI]
 | x::l,v,i,hi=>by
  rw [idxI]
  by_cases h:v=x
  ·rw [if_pos h];simp [h,hi]
  ·rw [if_neg h,idxI_mem l v (i+1) (by omega)];simp [h]
theorem ret_contains (S:SettingI C) (l:List Int) (k:SK) (v:Int) (hl:l.length≤2^40):Ret Tryz.prog C 310 [] [slAV k (l.map fun x=>[.int .i64 x]),.int .i64 v] (.bool (decide (v∈l))):=by
 refine ret_pure (S.pureI _ (by decide)) fun H=>func_rule Tryz.func310 rfl (S.prim _ (by decide)) (by simp) (by kernel_rfl) ?_
 unfold Tryz.f310
 have e:=(ret_index S l k v hl).eq
 have hm:=idxI_mem l v 0 (Int.le_refl _)
 simp [argS,e,hm]
end Go.Proofs.Ev
namespace Go.Proofs.Ev
open Go.Proofs
variable {C:Cfg}
structure SettingJ (C:Cfg):Prop extends SettingI C where
 idxB:∀(s:List UInt8) (c:UInt8),∃n:Int,(n<0↔¬c∈s)∧∀base H (K:AV→Heap→Prop),CallW Tryz.prog C base (.fn 311 []) [.str s,.int .u8 c.toNat] H K=K (.int .i64 n) H
 pureJ:∀f,f∈[252,251]→C.pure f=true
 plainJ:∀f,f∈[309]→C.pure f=false∧C.frz f=false
def lineP (s:List UInt8):Bool:=decide (s.length≤1000)&&decide (¬(10:UInt8)∈s)&&decide (¬(0:UInt8)∈s)
theorem ret_validP (S:SettingJ C) (s:List UInt8):Ret Tryz.prog C 252 [] [.str s] (.bool (lineP s)):=by
 refine ret_pure (S.pureJ _ (by decide)) fun H=>func_rule Tryz.func252 rfl (S.prim _ (by decide)) (by simp) (by kernel_rfl) ?_
 unfold Tryz.f252 lineP
 obtain ⟨n1,h1,e1⟩:=S.idxB s 10
 obtain ⟨n2,h2,e2⟩:=S.idxB s 0
 simp only [show ((10:UInt8).toNat:Int)=10 from rfl] at e1
 simp only [show ((0:UInt8).toNat:Int)=0 from rfl] at e2
 by_cases a:s.length≤1000
 ·have a':(s.length:Int)≤1000:=by omega
  by_cases b:n1<0
  ·have b':=h1.1 b
   by_cases c:n2<0
   ·have c':=h2.1 c
    simp [argS,guardV,a,a',e1,e2,b,b',c,c']
   ·have c':(0:UInt8)∈s:=Decidable.byContradiction fun h=>c (h2.2 h)
    simp [argS,guardV,a,a',e1,e2,b,b',c,c']
  ·have b':(10:UInt8)∈s:=Decidable.byContradiction fun h=>b (h1.2 h)
   simp [argS,guardV,a,a',e1,e2,b,b']
 ·have a':¬(s.length:Int)≤1000:=by omega
  simp [argS,guardV,a,a',e1,e2]
theorem tidy1_eq (S:SettingJ C) {base b g:Nat} {H:Heap} {kd:Int} (hg:blkRow H b g 1 0=some [.int .i64 kd]) (l:List Int) (k:SK) (hl:l.length≤2^40) (K:AV→Heap→Prop) :
 CallW Tryz.prog C base (.fn 309 [.ptr b g 1 0 0]) [slAV k (l.map fun x=>[.int .i64 x])] H K=K (.bool (decide (kd∈l))) H:=by
 refine CallW.eq (call_rule (S.plainJ _ (by decide)).1 (S.plainJ _ (by decide)).2 (func_rule Tryz.func309 rfl (S.prim _ (by decide)) (by simp) (by kernel_rfl) ?_)) K
 unfold Tryz.f309
 have e:=(ret_contains S.toSettingI l k kd hl).eq
 simp [argS,hg,e]
end Go.Proofs.Ev
namespace Go.Proofs.Ev
open Go.Proofs
variable {C:Cfg}
def tidyP (c:ChV):Bool :=
 (decide (c.kind=1)||(c.type==0))&&(decide (c.kind∈[2,3,4,5,6])||sameId c.file zeroId)&&(decide (c.kind=2)||(sameId c.parent zeroId&&c.name.isEmpty))&&(decide (c.kind=3)||(c.mode==0))&&(decide (c.kind=4)||c.data.isEmpty)
 && (decide (c.kind∈[5,6])||(sameId c.after zeroId&&sameId c.before zeroId))&&(decide (c.kind=5)||((c.lines.length:Int)==0))&&(decide (c.kind∈[2,3,4,6,7])||((c.over.length:Int)==0))
set_option maxRecDepth 100000 in
set_option maxHeartbeats 4000000 in
theorem ret_tidy (S:SettingJ C) (c:ChV) (hk1:1≤c.kind) (hk7:c.kind≤7):Ret Tryz.prog C 251 [] [.agg c.cells] (.bool (tidyP c)):=by
 refine ret_pure (S.pureJ _ (by decide)) fun H=>func_rule Tryz.func251 rfl (S.prim _ (by decide)) (by simp) (by kernel_rfl) ?_
 unfold Tryz.f251
 refine cut (fun s H'=>s 1=.ptr H.length 0 139 0 0∧H'=H++[.rows 139 0 [c.cells]]) ?_ ?_
 ·simp [argS]
 rintro s H' ⟨q1,rfl⟩
 refine cut (fun s H'=>s 1=.ptr H.length 0 139 0 0∧s 3=.ptr (H.length+1) 0 1 0 0∧H'=H++[.rows 139 0 [c.cells],.rows 1 0 [[.int .i64 c.kind]]]) ?_ ?_
 ·simp [q1,storeA,fillA]
 rintro s H' ⟨q1,q3,rfl⟩
 refine cut (fun s H'=>s 1=.ptr H.length 0 139 0 0∧s 4=.fn 309 [.ptr (H.length+1) 0 1 0 0]∧H'=H++[.rows 139 0 [c.cells],.rows 1 0 [[.int .i64 c.kind]]]) ?_ ?_
 ·simp [q1,q3]
 rintro s H' ⟨q1,q4,rfl⟩
 refine cut (fun s H'=>s 1=.ptr H.length 0 139 0 0∧s 5=.ptr (H.length+2) 0 33 0 0∧s 4=.fn 309 [.ptr (H.length+1) 0 1 0 0]∧H'=H++[.rows 139 0 [c.cells],.rows 1 0 [[.int .i64 c.kind]],.rows 33 0 [zeroId.cells]]) ?_ ?_
 ·simp [q1,q4,storeA,fillA]
 rintro s H' ⟨q1,q5,q4,rfl⟩
 obtain ⟨L,hL⟩:∃L:Heap,L=[.rows 1 0 [[.int .i64 c.kind]],.rows 33 0 [zeroId.cells]]:=⟨_,rfl⟩
 have et:=fun (l:List Int) (hl:l.length≤2^40)=>tidy1_eq S (base:=H.length) (b:=H.length+1) (g:=0) (H:=H++.rows 139 0 [c.cells]::L) (kd:=c.kind) (by rw [hL];simp [blkRow,app_get]) l .exact hl
 have hz:blkRow L 1 0 33 0=some zeroId.cells:=by rw [hL];rfl
 rw [←hL]
 clear hL
 have t1:=et [1] (by simp)
 have t2:=et [2,3,4,5,6] (by simp)
 have t3:=et [2] (by simp)
 have t4:=et [3] (by simp)
 have t5:=et [4] (by simp)
 have t6:=et [5,6] (by simp)
 have t7:=et [5] (by simp)
 have t8:=et [2,3,4,6,7] (by simp)
 simp only [slAV,List.map_cons,List.map_nil] at t1 t2 t3 t4 t5 t6 t7 t8
 have ei:=fun a=>eq_idV S.toSetting a zeroId
 unfold tidyP
 generalize hkd:c.kind=kd at *
 have hk:kd=1∨kd=2∨kd=3∨kd=4∨kd=5∨kd=6∨kd=7:=by omega
 rcases hk with rfl | rfl | rfl | rfl | rfl | rfl | rfl
 ·rcases Bool.eq_false_or_eq_true (sameId c.file zeroId) with f0 | f0
  rotate_left
  ·simp [q1,q5,q4,guardV,buildSliceA,fillRows,t1,t2,t3,t4,t5,t6,t7,t8,ei,hz,f0]
  rcases Bool.eq_false_or_eq_true (sameId c.parent zeroId) with f1 | f1
  rotate_left
  ·simp [q1,q5,q4,guardV,buildSliceA,fillRows,t1,t2,t3,t4,t5,t6,t7,t8,ei,hz,f0,f1]
  rcases Bool.eq_false_or_eq_true (c.name.isEmpty) with f2 | f2
  rotate_left
  ·simp [q1,q5,q4,guardV,buildSliceA,fillRows,t1,t2,t3,t4,t5,t6,t7,t8,ei,hz,f0,f1,f2]
  rcases Bool.eq_false_or_eq_true (c.mode==0) with f3 | f3
  rotate_left
  ·simp [q1,q5,q4,guardV,buildSliceA,fillRows,t1,t2,t3,t4,t5,t6,t7,t8,ei,hz,f0,f1,f2,f3]
  rcases Bool.eq_false_or_eq_true (c.data.isEmpty) with f4 | f4
  rotate_left
  ·simp [q1,q5,q4,guardV,buildSliceA,fillRows,t1,t2,t3,t4,t5,t6,t7,t8,ei,hz,f0,f1,f2,f3,f4]
  rcases Bool.eq_false_or_eq_true (sameId c.after zeroId) with f5 | f5
  rotate_left
  ·simp [q1,q5,q4,guardV,buildSliceA,fillRows,t1,t2,t3,t4,t5,t6,t7,t8,ei,hz,f0,f1,f2,f3,f4,f5]
  rcases Bool.eq_false_or_eq_true (sameId c.before zeroId) with f6 | f6
  rotate_left
  ·simp [q1,q5,q4,guardV,buildSliceA,fillRows,t1,t2,t3,t4,t5,t6,t7,t8,ei,hz,f0,f1,f2,f3,f4,f5,f6]
  rcases Bool.eq_false_or_eq_true ((c.lines.length:Int)==0) with f7 | f7
  rotate_left
  ·simp [q1,q5,q4,guardV,buildSliceA,fillRows,t1,t2,t3,t4,t5,t6,t7,t8,ei,hz,f0,f1,f2,f3,f4,f5,f6,f7]
  rcases Bool.eq_false_or_eq_true ((c.over.length:Int)==0) with f8 | f8
  rotate_left
  ·simp [q1,q5,q4,guardV,buildSliceA,fillRows,t1,t2,t3,t4,t5,t6,t7,t8,ei,hz,f0,f1,f2,f3,f4,f5,f6,f7,f8]
  simp [q1,q5,q4,guardV,buildSliceA,fillRows,t1,t2,t3,t4,t5,t6,t7,t8,ei,hz,f0,f1,f2,f3,f4,f5,f6,f7,f8]
 ·rcases Bool.eq_false_or_eq_true (c.type==0) with f0 | f0
  rotate_left
  ·simp [q1,q5,q4,guardV,buildSliceA,fillRows,t1,t2,t3,t4,t5,t6,t7,t8,ei,hz,f0]
  rcases Bool.eq_false_or_eq_true (c.mode==0) with f1 | f1
  rotate_left
  ·simp [q1,q5,q4,guardV,buildSliceA,fillRows,t1,t2,t3,t4,t5,t6,t7,t8,ei,hz,f0,f1]
  rcases Bool.eq_false_or_eq_true (c.data.isEmpty) with f2 | f2
  rotate_left
  ·simp [q1,q5,q4,guardV,buildSliceA,fillRows,t1,t2,t3,t4,t5,t6,t7,t8,ei,hz,f0,f1,f2]
  rcases Bool.eq_false_or_eq_true (sameId c.after zeroId) with f3 | f3
  rotate_left
  ·simp [q1,q5,q4,guardV,buildSliceA,fillRows,t1,t2,t3,t4,t5,t6,t7,t8,ei,hz,f0,f1,f2,f3]
  rcases Bool.eq_false_or_eq_true (sameId c.before zeroId) with f4 | f4
  rotate_left
  ·simp [q1,q5,q4,guardV,buildSliceA,fillRows,t1,t2,t3,t4,t5,t6,t7,t8,ei,hz,f0,f1,f2,f3,f4]
  rcases Bool.eq_false_or_eq_true ((c.lines.length:Int)==0) with f5 | f5
  rotate_left
  ·simp [q1,q5,q4,guardV,buildSliceA,fillRows,t1,t2,t3,t4,t5,t6,t7,t8,ei,hz,f0,f1,f2,f3,f4,f5]
  simp [q1,q5,q4,guardV,buildSliceA,fillRows,t1,t2,t3,t4,t5,t6,t7,t8,ei,hz,f0,f1,f2,f3,f4,f5]
 ·rcases Bool.eq_false_or_eq_true (c.type==0) with f0 | f0
  rotate_left
  ·simp [q1,q5,q4,guardV,buildSliceA,fillRows,t1,t2,t3,t4,t5,t6,t7,t8,ei,hz,f0]
  rcases Bool.eq_false_or_eq_true (sameId c.parent zeroId) with f1 | f1
  rotate_left
  ·simp [q1,q5,q4,guardV,buildSliceA,fillRows,t1,t2,t3,t4,t5,t6,t7,t8,ei,hz,f0,f1]
  rcases Bool.eq_false_or_eq_true (c.name.isEmpty) with f2 | f2
  rotate_left
  ·simp [q1,q5,q4,guardV,buildSliceA,fillRows,t1,t2,t3,t4,t5,t6,t7,t8,ei,hz,f0,f1,f2]
  rcases Bool.eq_false_or_eq_true (c.data.isEmpty) with f3 | f3
  rotate_left
  ·simp [q1,q5,q4,guardV,buildSliceA,fillRows,t1,t2,t3,t4,t5,t6,t7,t8,ei,hz,f0,f1,f2,f3]
  rcases Bool.eq_false_or_eq_true (sameId c.after zeroId) with f4 | f4
  rotate_left
  ·simp [q1,q5,q4,guardV,buildSliceA,fillRows,t1,t2,t3,t4,t5,t6,t7,t8,ei,hz,f0,f1,f2,f3,f4]
  rcases Bool.eq_false_or_eq_true (sameId c.before zeroId) with f5 | f5
  rotate_left
  ·simp [q1,q5,q4,guardV,buildSliceA,fillRows,t1,t2,t3,t4,t5,t6,t7,t8,ei,hz,f0,f1,f2,f3,f4,f5]
  rcases Bool.eq_false_or_eq_true ((c.lines.length:Int)==0) with f6 | f6
  rotate_left
  ·simp [q1,q5,q4,guardV,buildSliceA,fillRows,t1,t2,t3,t4,t5,t6,t7,t8,ei,hz,f0,f1,f2,f3,f4,f5,f6]
  simp [q1,q5,q4,guardV,buildSliceA,fillRows,t1,t2,t3,t4,t5,t6,t7,t8,ei,hz,f0,f1,f2,f3,f4,f5,f6]
 ·rcases Bool.eq_false_or_eq_true (c.type==0) with f0 | f0
  rotate_left
  ·simp [q1,q5,q4,guardV,buildSliceA,fillRows,t1,t2,t3,t4,t5,t6,t7,t8,ei,hz,f0]
  rcases Bool.eq_false_or_eq_true (sameId c.parent zeroId) with f1 | f1
  rotate_left
  ·simp [q1,q5,q4,guardV,buildSliceA,fillRows,t1,t2,t3,t4,t5,t6,t7,t8,ei,hz,f0,f1]
  rcases Bool.eq_false_or_eq_true (c.name.isEmpty) with f2 | f2
  rotate_left
  ·simp [q1,q5,q4,guardV,buildSliceA,fillRows,t1,t2,t3,t4,t5,t6,t7,t8,ei,hz,f0,f1,f2]
  rcases Bool.eq_false_or_eq_true (c.mode==0) with f3 | f3
  rotate_left
  ·simp [q1,q5,q4,guardV,buildSliceA,fillRows,t1,t2,t3,t4,t5,t6,t7,t8,ei,hz,f0,f1,f2,f3]
  rcases Bool.eq_false_or_eq_true (sameId c.after zeroId) with f4 | f4
  rotate_left
  ·simp [q1,q5,q4,guardV,buildSliceA,fillRows,t1,t2,t3,t4,t5,t6,t7,t8,ei,hz,f0,f1,f2,f3,f4]
  rcases Bool.eq_false_or_eq_true (sameId c.before zeroId) with f5 | f5
  rotate_left
  ·simp [q1,q5,q4,guardV,buildSliceA,fillRows,t1,t2,t3,t4,t5,t6,t7,t8,ei,hz,f0,f1,f2,f3,f4,f5]
  rcases Bool.eq_false_or_eq_true ((c.lines.length:Int)==0) with f6 | f6
  rotate_left
  ·simp [q1,q5,q4,guardV,buildSliceA,fillRows,t1,t2,t3,t4,t5,t6,t7,t8,ei,hz,f0,f1,f2,f3,f4,f5,f6]
  simp [q1,q5,q4,guardV,buildSliceA,fillRows,t1,t2,t3,t4,t5,t6,t7,t8,ei,hz,f0,f1,f2,f3,f4,f5,f6]
 ·rcases Bool.eq_false_or_eq_true (c.type==0) with f0 | f0
  rotate_left
  ·simp [q1,q5,q4,guardV,buildSliceA,fillRows,t1,t2,t3,t4,t5,t6,t7,t8,ei,hz,f0]
  rcases Bool.eq_false_or_eq_true (sameId c.parent zeroId) with f1 | f1
  rotate_left
  ·simp [q1,q5,q4,guardV,buildSliceA,fillRows,t1,t2,t3,t4,t5,t6,t7,t8,ei,hz,f0,f1]
  rcases Bool.eq_false_or_eq_true (c.name.isEmpty) with f2 | f2
  rotate_left
  ·simp [q1,q5,q4,guardV,buildSliceA,fillRows,t1,t2,t3,t4,t5,t6,t7,t8,ei,hz,f0,f1,f2]
  rcases Bool.eq_false_or_eq_true (c.mode==0) with f3 | f3
  rotate_left
  ·simp [q1,q5,q4,guardV,buildSliceA,fillRows,t1,t2,t3,t4,t5,t6,t7,t8,ei,hz,f0,f1,f2,f3]
  rcases Bool.eq_false_or_eq_true (c.data.isEmpty) with f4 | f4
  rotate_left
  ·simp [q1,q5,q4,guardV,buildSliceA,fillRows,t1,t2,t3,t4,t5,t6,t7,t8,ei,hz,f0,f1,f2,f3,f4]
  rcases Bool.eq_false_or_eq_true ((c.over.length:Int)==0) with f5 | f5
  rotate_left
  ·simp [q1,q5,q4,guardV,buildSliceA,fillRows,t1,t2,t3,t4,t5,t6,t7,t8,ei,hz,f0,f1,f2,f3,f4,f5]
  simp [q1,q5,q4,guardV,buildSliceA,fillRows,t1,t2,t3,t4,t5,t6,t7,t8,ei,hz,f0,f1,f2,f3,f4,f5]
 ·rcases Bool.eq_false_or_eq_true (c.type==0) with f0 | f0
  rotate_left
  ·simp [q1,q5,q4,guardV,buildSliceA,fillRows,t1,t2,t3,t4,t5,t6,t7,t8,ei,hz,f0]
  rcases Bool.eq_false_or_eq_true (sameId c.parent zeroId) with f1 | f1
  rotate_left
  ·simp [q1,q5,q4,guardV,buildSliceA,fillRows,t1,t2,t3,t4,t5,t6,t7,t8,ei,hz,f0,f1]
  rcases Bool.eq_false_or_eq_true (c.name.isEmpty) with f2 | f2
  rotate_left
  ·simp [q1,q5,q4,guardV,buildSliceA,fillRows,t1,t2,t3,t4,t5,t6,t7,t8,ei,hz,f0,f1,f2]
  rcases Bool.eq_false_or_eq_true (c.mode==0) with f3 | f3
  rotate_left
  ·simp [q1,q5,q4,guardV,buildSliceA,fillRows,t1,t2,t3,t4,t5,t6,t7,t8,ei,hz,f0,f1,f2,f3]
  rcases Bool.eq_false_or_eq_true (c.data.isEmpty) with f4 | f4
  rotate_left
  ·simp [q1,q5,q4,guardV,buildSliceA,fillRows,t1,t2,t3,t4,t5,t6,t7,t8,ei,hz,f0,f1,f2,f3,f4]
  rcases Bool.eq_false_or_eq_true ((c.lines.length:Int)==0) with f5 | f5
  rotate_left
  ·simp [q1,q5,q4,guardV,buildSliceA,fillRows,t1,t2,t3,t4,t5,t6,t7,t8,ei,hz,f0,f1,f2,f3,f4,f5]
  simp [q1,q5,q4,guardV,buildSliceA,fillRows,t1,t2,t3,t4,t5,t6,t7,t8,ei,hz,f0,f1,f2,f3,f4,f5]
 ·rcases Bool.eq_false_or_eq_true (c.type==0) with f0 | f0
  rotate_left
  ·simp [q1,q5,q4,guardV,buildSliceA,fillRows,t1,t2,t3,t4,t5,t6,t7,t8,ei,hz,f0]
  rcases Bool.eq_false_or_eq_true (sameId c.file zeroId) with f1 | f1
  rotate_left
  ·simp [q1,q5,q4,guardV,buildSliceA,fillRows,t1,t2,t3,t4,t5,t6,t7,t8,ei,hz,f0,f1]
  rcases Bool.eq_false_or_eq_true (sameId c.parent zeroId) with f2 | f2
  rotate_left
  ·simp [q1,q5,q4,guardV,buildSliceA,fillRows,t1,t2,t3,t4,t5,t6,t7,t8,ei,hz,f0,f1,f2]
  rcases Bool.eq_false_or_eq_true (c.name.isEmpty) with f3 | f3
  rotate_left
  ·simp [q1,q5,q4,guardV,buildSliceA,fillRows,t1,t2,t3,t4,t5,t6,t7,t8,ei,hz,f0,f1,f2,f3]
  rcases Bool.eq_false_or_eq_true (c.mode==0) with f4 | f4
  rotate_left
  ·simp [q1,q5,q4,guardV,buildSliceA,fillRows,t1,t2,t3,t4,t5,t6,t7,t8,ei,hz,f0,f1,f2,f3,f4]
  rcases Bool.eq_false_or_eq_true (c.data.isEmpty) with f5 | f5
  rotate_left
  ·simp [q1,q5,q4,guardV,buildSliceA,fillRows,t1,t2,t3,t4,t5,t6,t7,t8,ei,hz,f0,f1,f2,f3,f4,f5]
  rcases Bool.eq_false_or_eq_true (sameId c.after zeroId) with f6 | f6
  rotate_left
  ·simp [q1,q5,q4,guardV,buildSliceA,fillRows,t1,t2,t3,t4,t5,t6,t7,t8,ei,hz,f0,f1,f2,f3,f4,f5,f6]
  rcases Bool.eq_false_or_eq_true (sameId c.before zeroId) with f7 | f7
  rotate_left
  ·simp [q1,q5,q4,guardV,buildSliceA,fillRows,t1,t2,t3,t4,t5,t6,t7,t8,ei,hz,f0,f1,f2,f3,f4,f5,f6,f7]
  rcases Bool.eq_false_or_eq_true ((c.lines.length:Int)==0) with f8 | f8
  rotate_left
  ·simp [q1,q5,q4,guardV,buildSliceA,fillRows,t1,t2,t3,t4,t5,t6,t7,t8,ei,hz,f0,f1,f2,f3,f4,f5,f6,f7,f8]
  simp [q1,q5,q4,guardV,buildSliceA,fillRows,t1,t2,t3,t4,t5,t6,t7,t8,ei,hz,f0,f1,f2,f3,f4,f5,f6,f7,f8]
end Go.Proofs.Ev
namespace Go.Proofs.Ev
open Go.Proofs
variable {C:Cfg}
structure SettingK (C:Cfg):Prop extends SettingJ C where
 pureK:∀f,f∈[162,199]→C.pure f=true
structure ChV.Good (c:ChV):Prop where
 k1:1≤c.kind
 k7:c.kind≤7
 tidy:tidyP c=true
 ty:c.kind=1→1≤c.type∧c.type≤4
 nm:c.kind=2→nameP c.name=true
 md:0≤c.mode∧c.mode≤511
 dt:c.data.length≤65536
 ln:c.kind=5→c.lines≠[]
 lnn:c.lines.length≤2000
 lv:∀s∈c.lines,lineP s=true
 ov:c.kind=7→c.over≠[]
 on:c.over.length≤400
 asc:ascB c.over=true
theorem charP_eq (c:UInt8):charP c=nameC c:=by
 rw [Bool.eq_iff_iff]
 simp [charP,nameC]
 omega
theorem nameP_eq (s:List UInt8):nameP s=nameB s:=by
 have h:charP=nameC:=funext charP_eq
 rw [Bool.eq_iff_iff]
 cases s with
 | nil=>simp [nameP,nameB]
 | cons x l =>
  have e:((l.length+1:Nat):Int)≤40↔l.length+1≤40:=by omega
  simp only [nameP,nameB,h,List.isEmpty_cons,Bool.not_false,Bool.and_true,Bool.and_eq_true,List.length_cons,decide_eq_true_eq,e,Bool.and_assoc,bne]
  constructor
  ·rintro ⟨a,b,c,d⟩;exact ⟨a,by omega,b,c,d⟩
  ·rintro ⟨a,_,b,c,d⟩;exact ⟨a,b,c,d⟩
theorem lineP_eq (s:List UInt8):lineP s=validB s:=by
 rw [Bool.eq_iff_iff]
 simp only [lineP,validB,Bool.and_eq_true,decide_eq_true_eq,List.all_eq_true,okC]
 constructor
 ·rintro ⟨⟨h1,h2⟩,h3⟩
  refine ⟨by omega,fun x hx=>?_⟩
  have a1:x≠10:=fun h=>h2 (h▸hx)
  have a2:x≠0:=fun h=>h3 (h▸hx)
  have b1:x.toNat≠10:=fun h=>a1 (UInt8.toNat_inj.1 h)
  have b2:x.toNat≠0:=fun h=>a2 (UInt8.toNat_inj.1 h)
  simp;omega
 ·rintro ⟨h1,h2⟩
  refine ⟨⟨by omega,fun h=>?_⟩,fun h=>?_⟩
  ·have:=h2 _ h;simp at this
  ·have:=h2 _ h;simp at this
theorem tidy_of {c:ChV} (h1:1≤c.kind) (h7:c.kind≤7) (h:emptyB (restV c)=true):tidyP c=true:=by
 have hk:c.kind=1∨c.kind=2∨c.kind=3∨c.kind=4∨c.kind=5∨c.kind=6∨c.kind=7:=by omega
 rcases hk with hk | hk | hk | hk | hk | hk | hk <;>
  simp [emptyB,restV,rest1,rest2,rest3,nullId,hk] at h<;>simp [tidyP,hk,h]
theorem good_of {c:ChV} (h:fieldsE c=0):c.Good:=by
 have hln:=fields_lines h
 unfold fieldsE at h
 split at h
 ·omega
 rename_i h1
 split at h
 ·omega
 rename_i h2
 have a1:1≤c.kind∧c.kind≤7:=by simp at h1;omega
 have ht:=tidy_of a1.1 a1.2 (by simpa using h2)
 split at h
 ·omega
 rename_i h3
 split at h
 ·omega
 rename_i h4
 split at h
 ·omega
 rename_i h5
 split at h
 ·omega
 rename_i h6
 have ht':=ht
 simp only [tidyP,Bool.and_eq_true,Bool.or_eq_true,decide_eq_true_eq,beq_iff_eq] at ht'
 obtain ⟨⟨⟨⟨⟨⟨⟨t1,t2⟩,t3⟩,t4⟩,t5⟩,t6⟩,t7⟩,t8⟩:=ht'
 have hmd:0≤c.mode∧c.mode≤511:=by
  rcases t4 with t4 | t4
  ·simp [t4] at h5;omega
  ·omega
 have hty:c.kind=1→1≤c.type∧c.type≤4:=fun hk=>by simp [hk] at h3;omega
 have hnm:c.kind=2→nameP c.name=true:=fun hk=>by simp [hk] at h4;rw [nameP_eq];exact h4
 split at h
 ·rename_i hk
  have hov:c.over=[]:=by
   rcases t8 with t8 | t8
   ·simp [hk] at t8
   ·exact List.length_eq_zero_iff.1 (by omega)
  have hl:c.lines.length≠0∧c.lines.all validB=true:=by
   unfold linesE at h
   split at h
   ·omega
   split at h
   ·omega
   split at h
   ·rename_i hz _ hv;exact ⟨hz,hv⟩
   ·omega
  refine ⟨a1.1,a1.2,ht,hty,hnm,hmd,by omega,fun _ h0=>hl.1 (by rw [h0];rfl),hln,fun s hs=>?_,fun hk'=>by omega,by rw [hov];simp,by rw [hov];rfl⟩
  rw [lineP_eq];exact List.all_eq_true.1 hl.2 s hs
 ·rename_i hk
  have hlz:c.lines=[]:=by
   rcases t7 with t7 | t7
   ·omega
   ·exact List.length_eq_zero_iff.1 (by omega)
  split at h
  ·omega
  rename_i h7
  split at h
  ·omega
  rename_i h8
  split at h
  ·omega
  rename_i h9
  refine ⟨a1.1,a1.2,ht,hty,hnm,hmd,by omega,fun hk'=>absurd hk' hk,hln,fun s hs=>?_,fun hk' h0=>?_,by omega,by simpa using h9⟩
  ·rw [hlz] at hs;cases hs
  ·simp [hk',h0] at h7
theorem asc_at:∀{l:List IdV} (_:ascB l=true) (k:Nat) (hk:k+1<l.length),cmpI l[k] l[k+1]<0
 | [],_,k,hk=>by simp at hk
 | [_],_,k,hk=>by simp at hk
 | a::b::l,h,0,hk=>by
  simp only [ascB,Bool.and_eq_true,decide_eq_true_eq] at h
  exact h.1
 | a::b::l,h,k+1,hk=>by
  simp only [ascB,Bool.and_eq_true,decide_eq_true_eq] at h
  exact asc_at (l:=b::l) h.2 k (by simpa using hk)
set_option maxHeartbeats 4000000 in
theorem ret_checkFields (S:SettingK C) (c:ChV) (hg:c.Good) (hn:c.name.length≤2^40):Ret Tryz.prog C 162 [] [.agg c.cells] (.int .i64 0):=by
 refine ret_pure (S.pureK _ (by decide)) fun H=>func_rule Tryz.func162 rfl (S.prim _ (by decide)) (by simp) (by kernel_rfl) ?_
 unfold Tryz.f162
 have et:=(ret_tidy S.toSettingJ c hg.k1 hg.k7).eq
 rw [hg.tidy] at et
 have en:=(ret_isName S.toSettingG c.name hn).eq
 have k1:=hg.k1
 have k7:=hg.k7
 have m1:=hg.md
 have hl:=hg.lnn
 have hov:=hg.on
 have hd:=hg.dt
 have hk:c.kind=1∨c.kind=2∨c.kind=3∨c.kind=4∨c.kind=5∨c.kind=6∨c.kind=7:=by omega
 refine cut (fun s H'=>s 1=.ptr H.length 0 139 0 0∧H'=H++[.rows 139 0 [c.cells]]) ?_ ?_
 ·simp [argS]
 rintro s H' ⟨q1,rfl⟩
 refine cut (fun s H'=>s 1=.ptr H.length 0 139 0 0∧H'=H++[.rows 139 0 [c.cells]]) ?_ ?_
 ·have f1:¬c.mode<0:=by omega
  have f2:¬511<c.mode:=by omega
  have f3:¬(65536:Int)<c.data.length:=by omega
  have f4:¬(2000:Int)<c.lines.length:=by omega
  rcases hk with hk | hk | hk | hk | hk | hk | hk
  ·have:=hg.ty hk
   have f5:¬c.type<1:=by omega
   have f6:¬4<c.type:=by omega
   simp [q1,et,en,guardV,hk,f1,f2,f3,f4,f5,f6]
  ·have:=hg.nm hk
   simp [q1,et,en,guardV,hk,f1,f2,f3,f4,this]
  ·simp [q1,et,en,guardV,hk,f1,f2,f3,f4]
  ·simp [q1,et,en,guardV,hk,f1,f2,f3,f4]
  ·have:=hg.ln hk
   simp [q1,et,en,guardV,hk,f1,f2,f3,f4,this]
  ·simp [q1,et,en,guardV,hk,f1,f2,f3,f4]
  ·simp [q1,et,en,guardV,hk,f1,f2,f3,f4]
 rintro s H' ⟨q1,rfl⟩
 refine cut (fun s H'=>s 1=.ptr H.length 0 139 0 0∧H'=H++[.rows 139 0 [c.cells]]) ?_ ?_
 ·simp [q1]
  refine loop_count c.lines.length (fun i s H'=>s 1=.ptr H.length 0 139 0 0∧s 73=slAV c.linesK (c.lines.map strC)∧s 74=.int .i64 c.lines.length∧s 75=.int .i64 i∧H'=H++[.rows 139 0 [c.cells]]) ?_ ?_
  ·exact ⟨q1,rfl,rfl,rfl,rfl⟩
  rintro i s H' ⟨q1,q73,q74,q75,rfl⟩ hi
  by_cases h:i<c.lines.length
  ·have ev:=(ret_validP S.toSettingJ c.lines[i]).eq
   rw [hg.lv _ (List.getElem_mem h)] at ev
   simp [q1,q73,q74,q75,h,strC,ev,wrap_succ h (by omega)]
  ·have h':i=c.lines.length:=by omega
   subst h'
   simp [q1,q73,q74,q75]
 rintro s H' ⟨q1,rfl⟩
 refine cut (fun s H'=>s 1=.ptr H.length 0 139 0 0∧H'=H++[.rows 139 0 [c.cells]]) ?_ ?_
 ·have f4:¬(400:Int)<c.over.length:=by omega
  by_cases hk7:c.kind=7
  ·have:=hg.ov hk7
   simp [q1,guardV,hk7,f4,this]
  ·have b7:(c.kind==7)=false:=by simpa using hk7
   simp [q1,guardV,b7,hk7,f4]
 rintro s H' ⟨q1,rfl⟩
 refine cut (fun _ _=>True) ?_ ?_
 ·simp [q1]
  refine loop_count c.over.length (fun i s H'=>s 1=.ptr H.length 0 139 0 0∧s 5=.int .i64 ((i:Int)+1)∧H'=H++[.rows 139 0 [c.cells]]) ?_ ?_
  ·exact ⟨q1,rfl,rfl⟩
  rintro i s H' ⟨q1,q5,rfl⟩ hi
  by_cases h:i+1<c.over.length
  ·have h0:i<c.over.length:=by omega
   have e:=(ret_cmpIP S.toSettingI c.over[i] c.over[i+1]).eq
   have hc:=asc_at hg.asc i h
   have w1:IntKind.i64.wrap (i:Int)=i:=wrap_nat (by omega)
   have w2:IntKind.i64.wrap ((i:Int)+1+1)=((i+1:Nat):Int)+1:=by rw [wrap_in (by omega) (by omega)];omega
   have t1:((i:Int)+1).toNat=i+1:=by omega
   have t2:(0:Int)≤(i:Int)+1:=by omega
   have t3:(i:Int)+1<c.over.length:=by omega
   have t4:¬0≤cmpI c.over[i] c.over[i+1]:=by omega
   simp [q1,q5,h,h0,e,w1,w2,t1,t2,t3,t4]
  ·have t3:¬(i:Int)+1<c.over.length:=by omega
   simp [q1,q5,t3]
 rintro s H' -
 simp
end Go.Proofs.Ev
namespace Go.Proofs.Ev
open Go.Proofs
variable {C:Cfg}
structure SettingL (C:Cfg):Prop extends SettingK C where
 pureL:∀f,f∈[193,194,195,196,197,198]→C.pure f=true
 plainL:∀f,f∈[132,192]→C.pure f=false∧C.frz f=false
theorem beqF {a b:Int} (h:¬a=b):(a==b)=false:=by simpa using h
def overI (k:Int):Int:=if k=2∨k=3∨k=4∨k=6 then k else 0
theorem ret_overKind (S:SettingK C) (k:Int):Ret Tryz.prog C 199 [] [.int .i64 k] (.int .i64 (overI k)):=by
 refine ret_pure (S.pureK _ (by decide)) fun H=>func_rule Tryz.func199 rfl (S.prim _ (by decide)) (by simp) (by kernel_rfl) ?_
 unfold Tryz.f199
 by_cases h2:k=2
 ·subst h2;simp [argS,updateA,lookupA,keyOk,findA,entsA,keyEqA,overI]
 by_cases h3:k=3
 ·subst h3;simp [argS,updateA,lookupA,keyOk,findA,entsA,keyEqA,overI]
 by_cases h4:k=4
 ·subst h4;simp [argS,updateA,lookupA,keyOk,findA,entsA,keyEqA,overI]
 by_cases h6:k=6
 ·subst h6;simp [argS,updateA,lookupA,keyOk,findA,entsA,keyEqA,overI]
 have a2:(2:Int)≠k:=fun h=>h2 h.symm
 have a3:(3:Int)≠k:=fun h=>h3 h.symm
 have a4:(4:Int)≠k:=fun h=>h4 h.symm
 have a6:(6:Int)≠k:=fun h=>h6 h.symm
 simp [argS,updateA,lookupA,keyOk,findA,entsA,keyEqA,overI,h2,h3,h4,h6,a2,a3,a4,a6,beqF h2,beqF h3,beqF h4,beqF h6,beqF a2,beqF a3,beqF a4,beqF a6]
theorem ret_fits2 (S:SettingL C) (x:AtV):Ret Tryz.prog C 193 [] [.agg x.cells] (.bool (x.kind==1)):=by
 refine ret_pure (S.pureL _ (by decide)) fun H=>func_rule Tryz.func193 rfl (S.prim _ (by decide)) (by simp) (by kernel_rfl) ?_
 unfold Tryz.f193
 simp [argS]
theorem ret_fits3 (S:SettingL C) (x:AtV):Ret Tryz.prog C 194 [] [.agg x.cells] (.bool (x.kind==1&&(x.type==2||x.type==3))):=by
 refine ret_pure (S.pureL _ (by decide)) fun H=>func_rule Tryz.func194 rfl (S.prim _ (by decide)) (by simp) (by kernel_rfl) ?_
 unfold Tryz.f194
 by_cases h1:x.kind=1
 ·by_cases h2:x.type=2
  ·simp [argS,guardV,h1,h2]
  ·simp [argS,guardV,h1,h2,beqF h2]
 ·simp [argS,guardV,h1,beqF h1]
theorem ret_fits4 (S:SettingL C) (x:AtV):Ret Tryz.prog C 195 [] [.agg x.cells] (.bool (x.kind==1&&x.type==1)):=by
 refine ret_pure (S.pureL _ (by decide)) fun H=>func_rule Tryz.func195 rfl (S.prim _ (by decide)) (by simp) (by kernel_rfl) ?_
 unfold Tryz.f195
 by_cases h1:x.kind=1
 ·simp [argS,guardV,h1]
 ·simp [argS,guardV,h1,beqF h1]
theorem ret_fits5 (S:SettingL C) (x:AtV):Ret Tryz.prog C 196 [] [.agg x.cells] (.bool (x.kind==1&&x.type==4)):=by
 refine ret_pure (S.pureL _ (by decide)) fun H=>func_rule Tryz.func196 rfl (S.prim _ (by decide)) (by simp) (by kernel_rfl) ?_
 unfold Tryz.f196
 by_cases h1:x.kind=1
 ·simp [argS,guardV,h1]
 ·simp [argS,guardV,h1,beqF h1]
theorem fits6_eq (S:SettingL C) {base b:Nat} {H:Heap} {c:ChV} (hg:blkRow H b 0 139 0=some c.cells) (x:AtV) (K:AV→Heap→Prop) :
 CallW Tryz.prog C base (.fn 197 [.ptr b 0 139 0 0]) [.agg x.cells] H K=K (.bool (sameId x.id c.file||(x.kind==5&&sameId x.file c.file))) H:=by
 have hb:b<H.length:=by
  rcases Nat.lt_or_ge b H.length with h | h
  ·exact h
  ·simp [blkRow,List.getElem?_eq_none h] at hg
 have hg2:∀L,blkRow (H++L) b 0 139 0=some c.cells:=fun L=>by
  simp only [blkRow] at hg ⊢;rw [List.getElem?_append_left hb];exact hg
 refine CallW.eq (pure_rule (S.pureL _ (by decide)) (func_rule Tryz.func197 rfl (S.prim _ (by decide)) (by simp) (by kernel_rfl) ?_)) K
 unfold Tryz.f197
 have ei:=fun a b=>eq_idV S.toSetting a b
 cases h1:sameId x.id c.file with
 | true=>simp [argS,guardV,hg2,ei,h1]
 | false =>
  by_cases h2:x.kind=5
  ·simp [argS,guardV,hg2,ei,h1,h2]
  ·simp [argS,guardV,hg2,ei,h1,h2,beqF h2]
theorem fits7_eq (S:SettingL C) {base b:Nat} {H:Heap} {c:ChV} (hg:blkRow H b 0 139 0=some c.cells) (x:AtV) (K:AV→Heap→Prop) :
 CallW Tryz.prog C base (.fn 198 [.ptr b 0 139 0 0]) [.agg x.cells] H K=K (.bool (c.kind==7||(x.kind==overI c.kind&&sameId x.file c.file))) H:=by
 have hb:b<H.length:=by
  rcases Nat.lt_or_ge b H.length with h | h
  ·exact h
  ·simp [blkRow,List.getElem?_eq_none h] at hg
 have hg2:∀L,blkRow (H++L) b 0 139 0=some c.cells:=fun L=>by
  simp only [blkRow] at hg ⊢;rw [List.getElem?_append_left hb];exact hg
 refine CallW.eq (pure_rule (S.pureL _ (by decide)) (func_rule Tryz.func198 rfl (S.prim _ (by decide)) (by simp) (by kernel_rfl) ?_)) K
 unfold Tryz.f198
 have ei:=fun a b=>eq_idV S.toSetting a b
 have eo:=(ret_overKind S.toSettingK c.kind).eq
 by_cases h0:c.kind=7
 ·simp [argS,guardV,hg2,ei,h0]
 ·by_cases h2:x.kind=overI c.kind
  ·simp [argS,guardV,hg2,ei,h0,beqF h0,eo,h2]
  ·simp [argS,guardV,hg2,ei,h0,beqF h0,eo,h2,beqF h2]
def fileF (k:Int):FuncId:=if k=2∨k=3 then 193 else if k=4 then 194 else 195
def refs1 (c:ChV):List (IdV×AV):=if 2≤c.kind∧c.kind≤6 then [(c.file,.fn (fileF c.kind) [])] else []
def refs2 (c:ChV):List (IdV×AV):=if c.kind=2∧sameId c.parent rootId=false then [(c.parent,.fn 196 [])] else []
def refs3 (c:ChV) (b:Nat):List (IdV×AV):=if c.kind=5∨c.kind=6 then [(c.after,.fn 197 [.ptr b 0 139 0 0]),(c.before,.fn 197 [.ptr b 0 139 0 0])] else []
def refs4 (c:ChV) (b i:Nat):List (IdV×AV):=(c.over.take i).map fun x=>(x,AV.fn 198 [.ptr b 0 139 0 0])
def refsA (c:ChV) (b:Nat):List (IdV×AV):=refs1 c++(refs2 c++(refs3 c b++refs4 c b c.over.length))
@[simp] theorem IdV.dropB (x:IdV) (f:AV):(x.cells++[f]).drop 34=[]:=List.drop_of_length_le (by simp)
@[simp] theorem IdV.takeB (x:IdV) (f:AV):(x.cells++[f]).take 34=x.cells++[f]:=List.take_of_length_le (by simp)
def refRow (x:IdV×AV):List AV:=x.1.cells++[x.2]
@[simp] theorem refRow_len (x:IdV×AV):(refRow x).length=34:=by simp [refRow]
theorem addR_eq (S:SettingL C) {Z J:Heap} {base:Nat} (hZ:base≤Z.length) {v:AV} {l:List (IdV×AV)} (hg:GrowX (Z.length+1) 34 J v (l.map refRow)) (hn:l.length≤2^20) (x:IdV) (f:FuncId) (cs:List AV) :
 ∃v' J',GrowX (Z.length+1) 34 J' v' ((l++[(x,AV.fn f cs)]).map refRow)∧Stays 34 J J'∧
  ∀K:AV→Heap→Prop,CallW Tryz.prog C base (.fn 192 [.ptr Z.length 0 1 0 0]) [.agg x.cells,.fn f cs] (Z++.rows 1 0 [[v]]::J) K=K (.tup []) (Z++.rows 1 0 [[v']]::J'):=by
 obtain ⟨v',J',h1,h2,h3⟩:=GrowX.appendP (P:=Tryz.prog) (base:=base) (Z:=Z++[.rows 1 0 [[v]]]) (J:=J++[.rows 33 0 [x.cells]]) (n:=Z.length+1) (ts:=#[230,230]) (e:=233) (xd:=.slice 233) (rows:=l.map refRow) (x:=.lst [refRow (x,.fn f cs)] true) (ys:=[refRow (x,.fn f cs)]) (by simp) (by simp) sz233 by233 (by simp) (by decide) (by simp) (by simp;omega) (hg.app _) (fun r hr=>by obtain ⟨y,_,rfl⟩:=List.mem_map.1 hr;simp) rfl (by simp) (by simp;omega)
 refine ⟨v',J',by simpa using h2,fun k blk hk hb=>h3 k blk (by rw [List.getElem?_append_left (List.getElem?_eq_some_iff.1 hk).1];exact hk) hb,fun K=>CallW.eq (call_rule (S.plainL _ (by decide)).1 (S.plainL _ (by decide)).2 (func_rule Tryz.func192 rfl (S.prim _ (by decide)) (by simp) (by kernel_rfl) ?_)) K⟩
 unfold Tryz.f192
 simp only [List.append_assoc,List.cons_append,List.nil_append,refRow] at h1
 simp [argS,buildSliceA,fillRows,fillA,h1,storeA]
 exact ⟨⟨hZ,by rw [h2.cellv];rfl,by rw [h2.cellv];simpa using h2.leafv⟩,h2.cellv⟩
def refsM (c:ChV) (H:Heap) (l:List (IdV×AV)) (s:Sl) (H':Heap):Prop:=s 1=.ptr H.length 0 139 0 0∧s 3=.ptr (H.length+1) 0 1 0 0∧s 4=.fn 192 [.ptr (H.length+1) 0 1 0 0]∧∃v J,GrowX (H.length+2) 34 J v (l.map refRow)∧H'=H++.rows 139 0 [c.cells]::.rows 1 0 [[v]]::J
set_option maxRecDepth 100000 in
set_option maxHeartbeats 4000000 in
theorem references_ex (S:SettingL C) (c:ChV) (hn:c.over.length≤400) {base:Nat} {H:Heap} (hb:base≤H.length) :
 ∃v J,GrowX (H.length+2) 34 J v ((refsA c H.length).map refRow)∧∀K:AV→Heap→Prop,CallW Tryz.prog C base (.fn 132 []) [.agg c.cells] H K=K v (H++.rows 139 0 [c.cells]::.rows 1 0 [[v]]::J):=by
 suffices h:CallW Tryz.prog C base (.fn 132 []) [.agg c.cells] H (fun v' H'=>∃v J,GrowX (H.length+2) 34 J v ((refsA c H.length).map refRow)∧v'=v∧H'=H++.rows 139 0 [c.cells]::.rows 1 0 [[v]]::J) by
  obtain ⟨n,v1,H1,h1,v,J,hg,rfl,rfl⟩:=h
  exact ⟨_,J,hg,fun K=>CallW.eq ⟨n,_,_,h1,rfl,rfl⟩ K⟩
 refine call_rule (S.plainL _ (by decide)).1 (S.plainL _ (by decide)).2 (func_rule Tryz.func132 rfl (S.prim _ (by decide)) (by simp) (by kernel_rfl) ?_)
 unfold Tryz.f132
 have ad:=fun (v:AV) (J:Heap) (l:List (IdV×AV)) (hg:GrowX (H.length+2) 34 J v (l.map refRow)) (hn:l.length≤2^20) (x:IdV) (f:FuncId) (cs:List AV)=>addR_eq S (Z:=H++[.rows 139 0 [c.cells]]) (base:=base) (J:=J) (v:=v) (by simp;omega) (l:=l) (by simpa using hg) hn x f cs
 simp only [List.append_assoc,List.cons_append,List.nil_append,List.length_append,List.length_cons,List.length_nil,Nat.zero_add] at ad
 refine cut (fun s H'=>s 1=.ptr H.length 0 139 0 0∧H'=H++[.rows 139 0 [c.cells]]) ?_ ?_
 ·simp [argS]
 rintro s H' ⟨q1,rfl⟩
 refine cut (fun s H'=>s 1=.ptr H.length 0 139 0 0∧s 3=.ptr (H.length+1) 0 1 0 0∧H'=H++[.rows 139 0 [c.cells],.rows 1 0 [[.nils]]]) ?_ ?_
 ·simp [q1]
 rintro s H' ⟨q1,q3,rfl⟩
 refine cut (refsM c H []) ?_ ?_
 ·simp [q1,q3,refsM]
  exact .nils
 rintro s H' ⟨q1,q3,q4,v,J,hg,rfl⟩
 refine cut (refsM c H (refs1 c)) ?_ ?_
 ·by_cases k2:c.kind=2
  ·obtain ⟨v',J',hg',_,ea⟩:=ad v J [] hg (by simp) c.file 193 []
   simp [q1,q3,q4,k2,ea,refsM,refs1,fileF]
   simpa using hg'
  by_cases k3:c.kind=3
  ·obtain ⟨v',J',hg',_,ea⟩:=ad v J [] hg (by simp) c.file 193 []
   simp [q1,q3,q4,k3,ea,refsM,refs1,fileF]
   simpa using hg'
  by_cases k4:c.kind=4
  ·obtain ⟨v',J',hg',_,ea⟩:=ad v J [] hg (by simp) c.file 194 []
   simp [q1,q3,q4,k4,ea,refsM,refs1,fileF]
   simpa using hg'
  by_cases k5:c.kind=5
  ·obtain ⟨v',J',hg',_,ea⟩:=ad v J [] hg (by simp) c.file 195 []
   simp [q1,q3,q4,k5,ea,refsM,refs1,fileF]
   simpa using hg'
  by_cases k6:c.kind=6
  ·obtain ⟨v',J',hg',_,ea⟩:=ad v J [] hg (by simp) c.file 195 []
   simp [q1,q3,q4,k6,ea,refsM,refs1,fileF]
   simpa using hg'
  ·have h0:refs1 c=[]:=by rw [refs1,if_neg (by omega)]
   simp [q1,q3,q4,k2,k3,k4,k5,k6,refsM,h0]
   exact hg
 clear hg q1 q3 q4
 have n1:(refs1 c).length≤1:=by unfold refs1;split<;>simp
 have n2:(refs2 c).length≤1:=by unfold refs2;split<;>simp
 have n3:(refs3 c H.length).length≤2:=by unfold refs3;split<;>simp
 rintro s H' ⟨q1,q3,q4,v,J,hg,rfl⟩
 refine cut (refsM c H (refs1 c++refs2 c)) ?_ ?_
 ·have er:=(ret_root S.toSetting).eq
  have ei:=ne_of_eq (eq_idV S.toSetting c.parent rootId)
  by_cases k2:c.kind=2
  ·cases hp:sameId c.parent rootId with
   | true =>
    have h0:refs2 c=[]:=by rw [refs2,if_neg (by simp [hp])]
    simp [q1,q3,q4,guardV,k2,er,ei,hp,refsM,h0]
    simpa using hg
   | false =>
    obtain ⟨v',J',hg',_,ea⟩:=ad v J (refs1 c) hg (by omega) c.parent 196 []
    have h0:refs2 c=[(c.parent,.fn 196 [])]:=by rw [refs2,if_pos ⟨k2,hp⟩]
    simp [q1,q3,q4,guardV,k2,er,ei,hp,ea,refsM,h0]
    simpa using hg'
  ·have h0:refs2 c=[]:=by rw [refs2,if_neg (by simp [k2])]
   simp [q1,q3,q4,guardV,k2,beqF k2,refsM,h0]
   simpa using hg
 clear hg q1 q3 q4
 rintro s H' ⟨q1,q3,q4,v,J,hg,rfl⟩
 refine cut (refsM c H (refs1 c++refs2 c++refs3 c H.length)) ?_ ?_
 ·by_cases k5:c.kind=5∨c.kind=6
  ·obtain ⟨v',J',hg',_,ea⟩:=ad v J (refs1 c++refs2 c) hg (by simp;omega) c.after 197 [.ptr H.length 0 139 0 0]
   obtain ⟨v2,J2,hg2,_,ea2⟩:=ad v' J' _ hg' (by simp;omega) c.before 197 [.ptr H.length 0 139 0 0]
   have h0:refs3 c H.length=[(c.after,.fn 197 [.ptr H.length 0 139 0 0]),(c.before,.fn 197 [.ptr H.length 0 139 0 0])]:=by rw [refs3,if_pos k5]
   rcases k5 with k5 | k5
   ·simp [q1,q3,q4,guardV,k5,ea,ea2,refsM,h0]
    simpa using hg2
   ·simp [q1,q3,q4,guardV,k5,ea,ea2,refsM,h0]
    simpa using hg2
  ·have h0:refs3 c H.length=[]:=by rw [refs3,if_neg k5]
   have k5':c.kind≠5∧c.kind≠6:=by omega
   simp [q1,q3,q4,guardV,k5'.1,k5'.2,beqF k5'.1,beqF k5'.2,refsM,h0]
   simpa using hg
 clear hg q1 q3 q4
 rintro s H' ⟨q1,q3,q4,v,J,hg,rfl⟩
 refine cut (refsM c H (refs1 c++refs2 c++refs3 c H.length++refs4 c H.length c.over.length)) ?_ ?_
 ·simp [q1]
  refine loop_count c.over.length (fun i s H'=>s 64=slAV c.overK (c.over.map IdV.cells)∧s 65=.int .i64 c.over.length∧s 66=.int .i64 i∧refsM c H (refs1 c++refs2 c++refs3 c H.length++refs4 c H.length i) s H') ?_ ?_
  ·exact ⟨rfl,rfl,rfl,q1,q3,q4,v,J,by simpa [refs4] using hg,rfl⟩
  clear hg q1 q3 q4
  rintro i s H' ⟨q64,q65,q66,q1,q3,q4,v,J,hg,rfl⟩ hi
  by_cases h:i<c.over.length
  ·have n4:(refs4 c H.length i).length≤400:=by simp [refs4];omega
   obtain ⟨v',J',hg',_,ea⟩:=ad v (J++[.rows 33 0 [c.over[i].cells]]) _ (hg.app _) (by simp;omega) c.over[i] 198 [.ptr H.length 0 139 0 0]
   have er:refs4 c H.length (i+1)=refs4 c H.length i++[(c.over[i],AV.fn 198 [.ptr H.length 0 139 0 0])]:=by
    unfold refs4;rw [List.take_add_one,List.getElem?_eq_getElem h,List.map_append];rfl
   simp [q1,q3,q4,q64,q65,q66,h,storeA,fillA,ea,wrap_succ h (by omega),refsM,er]
   exact ⟨by omega,by simpa using hg'⟩
  ·have h':i=c.over.length:=by omega
   subst h'
   simp [q1,q3,q4,q64,q65,q66,refsM]
   simpa using hg
 clear hg q1 q3 q4
 rintro s H' ⟨q1,q3,q4,v,J,hg,rfl⟩
 simp [q3]
 simpa [refsA] using hg
end Go.Proofs.Ev
