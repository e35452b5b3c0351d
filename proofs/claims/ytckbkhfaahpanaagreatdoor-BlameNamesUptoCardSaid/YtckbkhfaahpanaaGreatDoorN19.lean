/- Part 19 of the proof that quiltlaw38.BlameNames returns true: no statement of its own. -/
import Derived.Test.YtckbkhfaahpanaaGreatDoorN18
import Derived.Test.YtckbkhfaahpanaaGreatDoorN14
import Derived.Test.YtckbkhfaahpanaaGreatDoorN13
import Derived.Test.YtckbkhfaahpanaaGreatDoorN16
import Derived.Lib.Builder
import Derived.Lib.UnsafeStr
set_option linter.all false
namespace Go.Proofs.Ev
open Go.Proofs
variable {C:Cfg} {σ:Sorts}
def atI (d:DigV) (x:AtV):AtV:={ x with id:=wholeV x.id d }
def atP (σ:Sorts) (d:DigV) (x:AtV):AtV :=
 let y:=at4 d (at3 d (at2 d (atI d x)))
 {y with over:=σ.i (x.over.map fun z=>wholeV z d),overK:=nlK x.over }
def RowIs (σ:Sorts) (d:DigV) (start:Nat) (X:Heap) (x:AtV) (row:List AV):Prop :=
 ∃v,row=(atP σ d x).cells.take 171++[v]∧((x.over=[]∧v=.nils)∨(x.over≠[]∧∃b g,v=.sl b g 33 0 (atP σ d x).over.length∧X[b]?=some (.rows 33 g ((atP σ d x).over.map IdV.cells))∧start≤b))
theorem RowIs.mono {d:DigV} {start:Nat} {X X':Heap} {x:AtV} {row:List AV} (h:RowIs σ d start X x row) (hX:∀(b g:Nat) (rs:List (List AV)),X[b]?=some (Blk.rows 33 g rs)→X'[b]?=some (Blk.rows 33 g rs)):RowIs σ d start X' x row:=by
 obtain ⟨v,h1,h2⟩:=h
 refine ⟨v,h1,?_⟩
 rcases h2 with h2 | ⟨h2,b,g,h3,h4,h5⟩
 ·exact .inl h2
 ·exact .inr ⟨h2,b,g,h3,hX _ _ _ h4,h5⟩
def CS (bl g n bd i:Nat) (s:Sl):Prop:=s 4=.sl bl g 172 0 n∧s 8=.fn 106 [.ptr bd 0 32 0 0]∧s 32=.sl bl g 172 0 n∧s 33=.int .i64 n∧s 34=.int .i64 i
def CI (X:Heap) (bl g n bd i:Nat) (s:Sl):Prop:=CS bl g n bd i s∧s 9=.int .i64 i∧s 10=.ptr X.length 0 172 0 0
structure CX (σ:Sorts) (d:DigV) (start bl g bd:Nat) (L:List AtV) (i:Nat) (X:Heap):Prop where
 rows:∃rows,X[bl]?=some (.rows 172 g rows)∧rows.length=L.length∧(∀j x,j<i→L[j]?=some x→∃row,rows[j]?=some row∧RowIs σ d start X x row)∧(∀j x,i≤j→L[j]?=some x→rows[j]?=some x.cells)
 dig:X[bd]?=some (.rows 32 0 [d.cells])
 low:start≤bl∧start≤X.length
theorem at4_over (d:DigV) (x:AtV):(at4 d (at3 d (at2 d (atI d x)))).over=x.over∧(at4 d (at3 d (at2 d (atI d x)))).overK=x.overK:=by
 unfold at4 at3 at2 atI
 repeat' split
 all_goals exact ⟨rfl,rfl⟩
set_option maxRecDepth 100000 in
set_option maxHeartbeats 8000000 in
theorem complete_walk (S:SettingQ C σ) (p:PatchV) (hp:p.Good) (H:Heap):FuncW Tryz.prog C H.length 59 [.agg p.cells] H fun r H'=>∃X bl g bd,H'=X∧r=.tup [.sl bl g 172 0 (checkL p).length,.int .i64 0]∧CX σ p.dig H.length bl g bd (checkL p) (checkL p).length X:=by
 refine func_rule Tryz.func59 rfl (S.prim _ (by decide)) (by simp) (by kernel_rfl) ?_
 unfold Tryz.f59
 obtain ⟨v,J,hg,hvs,ee⟩:=examine_ex S.toSettingO p hp (base:=H.length) (H:=H++[.rows 5 0 [p.cells]]) (by simp)
 have ei:=(ret_IdP S.toSettingP p hp).eq
 obtain ⟨L,hL⟩:∃L,L=checkL p:=⟨_,rfl⟩
 have hn:=hp.n
 have hover:=hp.fit.atomOver
 rw [←hL] at hg hn hover ⊢
 have hLne:L≠[]:=by
  obtain ⟨_,hc0,_⟩:=hp.head
  rw [hL,hp.atoms]
  cases hc:p.changes with
  | nil=>rw [hc] at hc0;exact absurd rfl hc0
  | cons c l =>
   have h1:=(made_len c 0 (hp.good (c:=c) (by rw [hc];simp)).lnn).2
   have h2:=atomsOf_len l ([]++madeV c 0)
   intro h0
   rw [atomsOf,List.length_nil] at h0
   rw [h0] at h2
   exact h1 (List.length_eq_zero_iff.1 (by simpa using h2))
 obtain ⟨d,hd⟩:∃d,d=p.dig:=⟨_,rfl⟩
 rw [←hd] at ei ⊢
 simp only [List.append_assoc,List.cons_append,List.nil_append,List.length_append,List.length_cons,List.length_nil,Nat.zero_add] at hg ee
 refine cut (fun s H'=>s 1=.ptr H.length 0 5 0 0∧H'=H++[.rows 5 0 [p.cells]]) ?_ ?_
 ·simp [argS]
 rintro s H' ⟨q1,rfl⟩
 refine cut (fun s H'=>s 1=.ptr H.length 0 5 0 0∧s 4=v∧s 6=.int .i64 0∧H'=H++.rows 5 0 [p.cells]::.rows 5 0 [p.cells]::.rows 1 0 [[v]]::J) ?_ ?_
 ·simp [q1,ee]
 rintro s H' ⟨q1,q4,q6,rfl⟩
 refine cut (fun s H'=>s 1=.ptr H.length 0 5 0 0∧s 4=v∧H'=H++.rows 5 0 [p.cells]::.rows 5 0 [p.cells]::.rows 1 0 [[v]]::J) ?_ ?_
 ·simp [q1,q4,q6]
 clear q1 q4 q6
 rintro s H' ⟨q1,q4,rfl⟩
 refine cut (fun s H'=>s 4=v∧s 7=.ptr (H.length+(J.length+3)) 0 32 0 0∧s 6=.int .i64 0∧H'=H++.rows 5 0 [p.cells]::.rows 5 0 [p.cells]::.rows 1 0 [[v]]::(J++[.rows 32 0 [d.cells]])) ?_ ?_
 ·simp [q1,q4,ei,storeA,fillA]
  decide
 rintro s H' ⟨q4,q7,q6,rfl⟩
 obtain ⟨b,g,rfl,hb⟩:∃b g,v=.sl (H.length+1+2+b) g 172 0 L.length∧J[b]?=some (.rows 172 g (L.map AtV.cells)):=by
  rcases hg with ⟨h0,_⟩ | h0 | ⟨b,g,h0,hb⟩
  ·exact absurd (by simpa using h0) hLne
  ·rw [h0] at hvs
   rcases hvs with h | ⟨_,_,_,h⟩<;>cases h
  ·exact ⟨b,g,by rw [h0,List.length_map],hb⟩
 obtain ⟨bl,hbl⟩:∃bl,bl=H.length+1+2+b:=⟨_,rfl⟩
 obtain ⟨bd,hbd⟩:∃bd,bd=H.length+(J.length+3):=⟨_,rfl⟩
 rw [←hbl] at q4
 rw [←hbd] at q7
 have hbJ:b<J.length:=(List.getElem?_eq_some_iff.1 hb).1
 have hX0:CX σ d H.length bl g bd L 0 (H++.rows 5 0 [p.cells]::.rows 5 0 [p.cells]::.rows 1 0 [[.sl (H.length+1+2+b) g 172 0 L.length]]::(J++[.rows 32 0 [d.cells]])):=by
  refine ⟨⟨L.map AtV.cells,?_,by simp,fun j x hj=>by omega,fun j x _ hx=>by simp [hx]⟩,?_,by omega,by simp⟩
  ·rw [hbl,show H.length+1+2+b=H.length+(b+3) by omega,app_get]
   simp only [List.getElem?_cons_succ]
   rw [List.getElem?_append_left hbJ];exact hb
  ·rw [hbd,app_get];simp
 obtain ⟨X0,hX0e⟩:∃X0,X0=(H++.rows 5 0 [p.cells]::.rows 5 0 [p.cells]::.rows 1 0 [[.sl (H.length+1+2+b) g 172 0 L.length]]::(J++[.rows 32 0 [d.cells]])):=⟨_,rfl⟩
 rw [←hX0e] at hX0 ⊢
 refine cut (fun s H'=>s 4=.sl bl g 172 0 L.length∧s 7=.ptr bd 0 32 0 0∧H'=X0) ?_ ?_
 ·simp [q4,q6,q7]
 clear q4 q6 q7
 rintro s X ⟨q4,q7,rfl⟩
 refine cut (fun s H'=>s 4=.sl bl g 172 0 L.length∧s 8=.fn 106 [.ptr bd 0 32 0 0]∧H'=X) ?_ ?_
 ·simp [q4,q7]
 clear q4 q7
 rintro s X ⟨q4,q8,rfl⟩
 clear hX0e
 refine cut (fun s X=>s 4=.sl bl g 172 0 L.length∧CX σ d H.length bl g bd L L.length X) ?_ ?_
 rotate_left
 ·rintro s X ⟨q4,hX⟩
  simp [q4]
  exact ⟨bl,g,⟨rfl,rfl⟩,bd,hX⟩
 simp [q4,q8]
 refine loop_count L.length (fun i s X=>CS bl g L.length bd i s∧CX σ d H.length bl g bd L i X) ?_ ?_
 ·exact ⟨⟨q4,q8,rfl,rfl,rfl⟩,hX0⟩
 clear q4 q8 hX0
 rintro i s X ⟨⟨q4,q8,q32,q33,q34⟩,hX⟩ hi
 by_cases h:i<L.length
 rotate_left
 ·have h':i=L.length:=by omega
  subst h'
  simp [q4,q8,q32,q33,q34]
  exact hX
 refine cut (fun s X'=>s 35=.bool true∧CS bl g L.length bd i s∧X'=X) ?_ ?_
 ·simp [q4,q8,q32,q33,q34,h,CS]
 clear q4 q8 q32 q33 q34
 rintro s X ⟨q35,⟨q4,q8,q32,q33,q34⟩,rfl⟩
 refine cut (fun s X'=>CS bl g L.length bd i s∧X'=X) ?_ ?_
 ·simp [q35,q4,q8,q32,q33,q34,CS]
 clear q35 q4 q8 q32 q33 q34
 rintro s X ⟨⟨q4,q8,q32,q33,q34⟩,rfl⟩
 refine cut (fun s X'=>CS bl g L.length bd i s∧CX σ d H.length bl g bd L (i+1) X') ?_ ?_
 rotate_left
 ·rintro s X ⟨⟨q4,q8,q32,q33,q34⟩,hX⟩
  simp [q4,q8,q32,q33,q34,CS,wrap_succ h (by omega),h]
  exact hX
 rw [wp_block]
 obtain ⟨x,hx⟩:∃x,L[i]?=some x:=⟨_,List.getElem?_eq_getElem h⟩
 have hxm:x∈L:=List.mem_of_getElem? hx
 have hxo:=hover x hxm
 obtain ⟨⟨rows,hr1,hr2,hr3,hr4⟩,hdg,hlow,hlow2⟩:=hX
 have hri:=hr4 i x (Nat.le_refl _) hx
 have hblX:bl<X.length:=(List.getElem?_eq_some_iff.1 hr1).1
 have hbdX:bd<X.length:=(List.getElem?_eq_some_iff.1 hdg).1
 have fe:∀(M:Heap) (z:IdV) (K:AV→Heap→Prop),CallW Tryz.prog C H.length (.fn 106 [.ptr bd 0 32 0 0]) [.agg z.cells] (X++M) K=K (.agg (wholeV z d).cells) (X++M):=fun M z K=>full_eq S.toSettingP (by rw [List.getElem?_append_left hbdX];exact hdg) z K
 have hbr:blkRow X bl g 172 i=some x.cells:=by simp [blkRow,hr1,hri]
 have kp:∀(y:AtV) (F:Code),True:=fun _ _=>trivial
 refine cut (fun s X'=>CI X bl g L.length bd i s∧X'=X++[.rows 172 0 [x.cells]]) ?_ ?_
 ·simp [q4,q8,q32,q33,q34,h,hbr,CI,CS,storeA,fillA,hlow2]
 clear q4 q8 q32 q33 q34
 rintro s X' ⟨⟨⟨q4,q8,q32,q33,q34⟩,q9,q10⟩,rfl⟩
 refine cut (fun s X'=>CI X bl g L.length bd i s∧X'=X++[.rows 172 0 [(atI d x).cells]]) ?_ ?_
 ·simp [q4,q8,q32,q33,q34,q9,q10,fe,CI,CS,storeA,fillA,hlow2,atI]
 clear q4 q8 q32 q33 q34 q9 q10
 obtain ⟨y1,hy1⟩:∃y1,y1=atI d x:=⟨_,rfl⟩
 rw [←hy1]
 rintro s X' ⟨⟨⟨q4,q8,q32,q33,q34⟩,q9,q10⟩,rfl⟩
 refine cut (fun s X'=>CI X bl g L.length bd i s∧X'=X++[.rows 172 0 [(at2 d y1).cells]]) ?_ ?_
 ·by_cases hk:y1.kind=7
  ·simp [q4,q8,q32,q33,q34,q9,q10,fe,CI,CS,storeA,fillA,hlow2,at2,hk]
  ·simp [q4,q8,q32,q33,q34,q9,q10,fe,CI,CS,storeA,fillA,hlow2,at2,hk]
 clear q4 q8 q32 q33 q34 q9 q10
 obtain ⟨y2,hy2⟩:∃y2,y2=at2 d y1:=⟨_,rfl⟩
 rw [←hy2]
 rintro s X' ⟨⟨⟨q4,q8,q32,q33,q34⟩,q9,q10⟩,rfl⟩
 refine cut (fun s X'=>CI X bl g L.length bd i s∧X'=X++[.rows 172 0 [(at3 d y2).cells]]) ?_ ?_
 ·by_cases hk:y2.kind=2
  ·simp [q4,q8,q32,q33,q34,q9,q10,fe,CI,CS,storeA,fillA,hlow2,at3,hk]
  ·simp [q4,q8,q32,q33,q34,q9,q10,fe,CI,CS,storeA,fillA,hlow2,at3,hk]
 clear q4 q8 q32 q33 q34 q9 q10
 obtain ⟨y3,hy3⟩:∃y3,y3=at3 d y2:=⟨_,rfl⟩
 rw [←hy3]
 rintro s X' ⟨⟨⟨q4,q8,q32,q33,q34⟩,q9,q10⟩,rfl⟩
 refine cut (fun s X'=>CI X bl g L.length bd i s∧X'=X++[.rows 172 0 [(at4 d y3).cells]]) ?_ ?_
 ·by_cases hk:y3.kind=6
  ·simp [q4,q8,q32,q33,q34,q9,q10,fe,CI,CS,storeA,fillA,hlow2,at4,hk]
   rw [kOpsU_turn (h:=by kernel_rfl)]
   simp [q4,q8,q32,q33,q34,q9,q10,storeA,fillA,hlow2]
   rw [kOpsU_turn (h:=by kernel_rfl)]
   simp [q4,q8,q32,q33,q34,q9,q10]
  ·simp [q4,q8,q32,q33,q34,q9,q10,fe,CI,CS,storeA,fillA,hlow2,at4,hk]
 clear q4 q8 q32 q33 q34 q9 q10
 obtain ⟨y,hy⟩:∃y,y=at4 d y3:=⟨_,rfl⟩
 rw [←hy]
 rintro s X' ⟨⟨⟨q4,q8,q32,q33,q34⟩,q9,q10⟩,rfl⟩
 obtain ⟨hyo,hyk⟩:=at4_over d x
 rw [←hy1,←hy2,←hy3,←hy] at hyo hyk
 refine cut (fun s X'=>CI X bl g L.length bd i s∧s 11=.nils∧X'=X++[.rows 172 0 [y.cells]]) ?_ ?_
 ·simp [q4,q8,q32,q33,q34,q9,q10,CI,CS]
 clear q4 q8 q32 q33 q34 q9 q10
 rintro s X' ⟨⟨⟨q4,q8,q32,q33,q34⟩,q9,q10⟩,q11,rfl⟩
 obtain ⟨ov,hov⟩:∃ov,ov=x.over.map fun z=>wholeV z d:=⟨_,rfl⟩
 have hovl:ov.length=x.over.length:=by rw [hov];simp
 refine cut (fun s X'=>CI X bl g L.length bd i s∧∃v J,s 11=v∧GrowX (X.length+1) 33 J v (ov.map IdV.cells)∧(x.over.length=0→v=.nils)∧(v=.nils∨∃b g l,v=.sl b g 33 0 l)∧X'=X++.rows 172 0 [y.cells]::J) ?_ ?_
 ·have hyl:y.over.length=x.over.length:=by rw [hyo]
  simp [q4,q8,q32,q33,q34,q9,q10,q11]
  refine loop_count x.over.length (fun j s X'=>CI X bl g L.length bd i s∧s 74=slAV y.overK (y.over.map IdV.cells)∧s 75=.int .i64 x.over.length∧s 76=.int .i64 j∧
   ∃v J,s 11=v∧GrowX (X.length+1) 33 J v ((ov.take j).map IdV.cells)∧(j=0→v=.nils)∧(v=.nils∨∃b g l,v=.sl b g 33 0 l)∧X'=X++.rows 172 0 [y.cells]::J) ?_ ?_
  ·refine ⟨⟨⟨q4,q8,q32,q33,q34⟩,q9,q10⟩,rfl,by simp [hyl],rfl,.nils,[],q11,.nils,fun _=>rfl,.inl rfl,rfl⟩
  clear q4 q8 q32 q33 q34 q9 q10 q11
  rintro j s X' ⟨⟨⟨q4,q8,q32,q33,q34⟩,q9,q10⟩,q74,q75,q76,v,J,q11,hg,hv0,hv,rfl⟩ hj
  by_cases hjl:j<x.over.length
  ·obtain ⟨z,hz⟩:∃z,x.over[j]?=some z:=⟨_,List.getElem?_eq_getElem hjl⟩
   have hyz:y.over[j]?=some z:=by rw [hyo];exact hz
   have hojz:ov[j]?=some (wholeV z d):=by rw [hov,List.getElem?_map,hz];rfl
   obtain ⟨v2,J2,ha,hg2,_⟩:=GrowX.appendP (P:=Tryz.prog) (base:=H.length) (Z:=X++[.rows 172 0 [y.cells]]) (J:=J++[.rows 33 0 [z.cells]]) (n:=X.length+1) (ts:=#[34,34]) (e:=27) (xd:=.slice 27) (rows:=(ov.take j).map IdV.cells) (x:=.lst [(wholeV z d).cells] true) (ys:=[(wholeV z d).cells]) (v:=v)
    (by simp) (by simp) sz27 by27 (by simp) (by decide) (by simp) (by simp;omega) (hg.app _) (fun r hr=>by obtain ⟨y,_,rfl⟩:=List.mem_map.1 hr;simp) rfl (by simp) (by simp;omega)
   have hv2:=appendA_sl (P:=Tryz.prog) (e:=27) (xd:=.slice 27) (by simp) (by simp) sz27 by27 (x:=.lst [(wholeV z d).cells] true) (ys:=[(wholeV z d).cells]) rfl (by simp) ha
   simp only [List.append_assoc,List.cons_append,List.nil_append] at ha
   have fz:=fun K=>fe (.rows 172 0 [y.cells]::(J++[.rows 33 0 [z.cells]])) z K
   have ht:(ov.take (j+1)).map IdV.cells=(ov.take j).map IdV.cells++[(wholeV z d).cells]:=by rw [List.take_add_one,hojz,List.map_append];rfl
   have hrow:(y.over.map IdV.cells)[j]?=some z.cells:=by rw [List.getElem?_map,hyz];rfl
   have hjy:j<y.over.length:=by rw [hyo];exact hjl
   have hb2:H.length≤X.length+(J.length+1):=by omega
   have hzz:y.over[j]=z:=by rw [List.getElem?_eq_getElem hjy] at hyz;exact Option.some.inj hyz
   simp [-List.getElem?_map,q4,q8,q32,q33,q34,q9,q10,q74,q75,q76,q11,hjl,hjy,hrow,hzz,storeA,fillA,fz,buildSliceA,fillRows,ha,wrap_succ hjl (by omega),CI,CS,hb2]
   exact ⟨by rw [←List.map_take,ht];exact hg2,.inr hv2⟩
  ·have h':j=x.over.length:=by omega
   subst h'
   rw [←hovl,List.take_length] at hg
   simp [q4,q8,q32,q33,q34,q9,q10,q74,q75,q76,CI,CS]
   exact ⟨J,by rw [q11];exact hg,fun h=>by rw [q11];exact hv0 (by rw [h];rfl),by rw [q11];exact hv,rfl⟩
 clear q4 q8 q32 q33 q34 q9 q10 q11
 rintro s X' ⟨⟨⟨q4,q8,q32,q33,q34⟩,q9,q10⟩,v,J,q11,hg,hv0,hv,rfl⟩
 obtain ⟨so,hso⟩:∃so,so=σ.i ov:=⟨_,rfl⟩
 have hsol:so.length=ov.length:=by rw [hso];exact (S.permI ov).length_eq
 refine cut (fun s X'=>CI X bl g L.length bd i s∧∃J,s 11=v∧((x.over=[]∧v=.nils)∨(x.over≠[]∧∃b g,v=.sl (X.length+1+b) g 33 0 so.length∧J[b]?=some (.rows 33 g (so.map IdV.cells))))∧X'=X++.rows 172 0 [y.cells]::J) ?_ ?_
 ·rcases hv with hv | ⟨b1,g1,l1,hv⟩
  ·have hov0:ov=[]:=by
    rcases hg with ⟨h0,_⟩ | h0 | ⟨b,g,h0,_⟩
    ·simpa using h0
    ·rw [hv] at h0;cases h0
    ·rw [hv] at h0;cases h0
   have hx0:x.over=[]:=List.length_eq_zero_iff.1 (by rw [←hovl,hov0];rfl)
   have es:=fun H' K=>S.sortI0 (base:=H.length) (H:=H') K
   subst hv
   simp [q4,q8,q32,q33,q34,q9,q10,q11,es,CI,CS,hx0]
  ·obtain ⟨b2,g2,hv2,hb2⟩:∃b2 g2,v=.sl (X.length+1+b2) g2 33 0 ov.length∧J[b2]?=some (.rows 33 g2 (ov.map IdV.cells)):=by
    rcases hg with ⟨_,h0⟩ | h0 | ⟨b,g,h0,hb⟩
    ·rw [hv] at h0;cases h0
    ·rw [hv] at h0;cases h0
    ·exact ⟨b,g,by rw [h0,List.length_map],hb⟩
   have hget:(X++Blk.rows 172 0 [y.cells]::J)[X.length+1+b2]?=some (.rows 33 g2 (ov.map IdV.cells)):=by rw [get_at];exact hb2
   have es:=fun K=>S.sortI (base:=H.length) (b:=X.length+1+b2) (by omega) (by omega) hget K
   rw [set_at,←hso] at es
   have hbJ2:b2<J.length:=(List.getElem?_eq_some_iff.1 hb2).1
   have hx0:x.over≠[]:=fun h0=>by have:=hv0 (by rw [h0];rfl);rw [hv] at this;cases this
   rw [hv2] at q11
   simp [q4,q8,q32,q33,q34,q9,q10,q11,es,CI,CS,hx0]
   exact ⟨hv2.symm,b2,g2,by rw [hv2,hsol],by simp [hbJ2]⟩
 clear q4 q8 q32 q33 q34 q9 q10 q11
 rintro s X' ⟨⟨⟨q4,q8,q32,q33,q34⟩,q9,q10⟩,J1,q11,hv1,rfl⟩
 have hvl:v.leaf=true:=by rcases hv with h | ⟨_,_,_,h⟩<;>rw [h]<;>rfl
 have hvc:v.cells=[v]:=by rcases hv with h | ⟨_,_,_,h⟩<;>rw [h]<;>rfl
 obtain ⟨row,hrow⟩:∃row,row=y.cells.take 171++[v]:=⟨_,rfl⟩
 have hrl:row.length=172:=by rw [hrow];simp
 have hrt:row.take 172=row:=List.take_of_length_le (by omega)
 have hrd:row.drop 172=[]:=List.drop_of_length_le (by omega)
 have hra:∀z∈row,z.leaf=true:=by
  intro z hz
  rw [hrow] at hz
  rcases List.mem_append.1 hz with hz | hz
  ·exact List.all_eq_true.1 y.leafs z (List.mem_of_mem_take hz)
  ·rw [List.mem_singleton.1 hz];exact hvl
 refine cut (fun s X'=>CI X bl g L.length bd i s∧X'=X++.rows 172 0 [row]::J1) ?_ ?_
 ·simp [q4,q8,q32,q33,q34,q9,q10,q11,CI,CS,storeA,fillA,hlow2,hvl,hvc,hrow]
 clear q4 q8 q32 q33 q34 q9 q10 q11
 rintro s X' ⟨⟨⟨q4,q8,q32,q33,q34⟩,q9,q10⟩,rfl⟩
 have hgetA:∀M:Heap,(X++M)[bl]?=some (.rows 172 g rows):=fun M=>by rw [List.getElem?_append_left hblX];exact hr1
 have hsetA:∀(M:Heap) (B:Blk),(X++M).set bl B=X.set bl B++M:=fun M B=>List.set_append_left _ _ hblX
 have hir:i<rows.length:=by omega
 have hrx:rows[i]=x.cells:=by rw [List.getElem?_eq_getElem hir] at hri;exact Option.some.inj hri
 simp [q4,q8,q32,q33,q34,q9,q10,CS,storeA,hlow,hgetA,hsetA,h,hir,hrx,hrl,hrt,hrd]
 have hsl:(X.set bl (.rows 172 g (rows.set i row))).length=X.length:=by simp
 have hmono:∀(b g':Nat) (rs:List (List AV)),X[b]?=some (Blk.rows 33 g' rs)→(X.set bl (.rows 172 g (rows.set i row))++Blk.rows 172 0 [row]::J1)[b]?=some (Blk.rows 33 g' rs):=by
  intro b g' rs hb
  have hbX:=(List.getElem?_eq_some_iff.1 hb).1
  rw [List.getElem?_append_left (by omega),List.getElem?_set_ne]
  ·exact hb
  ·rintro rfl
   rw [hr1] at hb
   cases hb
 have hyx:at4 d (at3 d (at2 d (atI d x)))=y:=by rw [hy,hy3,hy2,hy1]
 have hap:atP σ d x={ y with over:=so,overK:=nlK x.over }:=by unfold atP;rw [hyx,hso,hov]
 refine ⟨hra,⟨⟨rows.set i row,?_,by simp [hr2],?_,?_⟩,?_,⟨hlow,by simp;omega⟩⟩⟩
 ·rw [List.getElem?_append_left (by omega),List.getElem?_set_self hblX]
 ·intro j x' hj hx'
  by_cases hji:j=i
  ·subst hji
   rw [hx] at hx'
   cases hx'
   refine ⟨row,by rw [List.getElem?_set_self hir],v,?_,?_⟩
   ·rw [hrow,hap,AtV.tk171,AtV.tk171]
   ·rcases hv1 with hv1 | ⟨h1,b',g',h2,h3⟩
    ·exact .inl hv1
    ·refine .inr ⟨h1,X.length+1+b',g',?_,?_,by omega⟩
     ·rw [hap];exact h2
     ·rw [hap]
      have:=get_at (X.set bl (.rows 172 g (rows.set j row))) J1 (.rows 172 0 [row]) b'
      rw [hsl,h3] at this
      exact this
  ·obtain ⟨row',h1,h2⟩:=hr3 j x' (by omega) hx'
   exact ⟨row',by rw [List.getElem?_set_ne (Ne.symm hji)];exact h1,h2.mono hmono⟩
 ·intro j x' hj hx'
  rw [List.getElem?_set_ne (by omega)]
  exact hr4 j x' (by omega) hx'
 ·rw [List.getElem?_append_left (by omega),List.getElem?_set_ne]
  ·exact hdg
  ·rintro rfl
   rw [hr1] at hdg
   cases hdg
theorem freezes_app {H:Heap} {k e:Nat} {a b c:List AV} (ha:AV.closeds a=true) (hb:b.mapM (freezeA H k e)=some c):(a++b).mapM (freezeA H k e)=some (a++c):=by
 rw [List.mapM_append,freezes_closed ha,hb];rfl
theorem closeds_take {n:Nat}:∀{l:List AV},AV.closeds l=true→AV.closeds (l.take n)=true:=by
 induction n with
 | zero=>intro l _;rfl
 | succ n ih =>
  intro l h
  cases l with
  | nil=>rfl
  | cons x l =>
   simp only [AV.closeds,Bool.and_eq_true] at h
   rw [List.take_succ_cons]
   simp only [AV.closeds,Bool.and_eq_true]
   exact ⟨h.1,ih h.2⟩
theorem RowIs.freeze {d:DigV} {start:Nat} {X:Heap} {x:AtV} {row:List AV} (h:RowIs σ d start X x row) (hp:∀l,(σ.i l).Perm l):row.mapM (freezeA X start 1)=some (atP σ d x).cells:=by
 obtain ⟨v,rfl,h⟩:=h
 have hc:=closeds_take (n:=171) (AtV.closed (atP σ d x))
 have hcl:AV.closedss ((atP σ d x).over.map IdV.cells)=true:=closedss_map IdV.closed _
 have hvv:freezeA X start 1 v=some (slAV (atP σ d x).overK ((atP σ d x).over.map IdV.cells)):=by
  rcases h with ⟨h1,rfl⟩ | ⟨h1,b,g,rfl,h2,h3⟩
  ·have h0:(atP σ d x).over=[]:=by
    show σ.i (x.over.map fun z=>wholeV z d)=[]
    rw [h1];exact (hp []).eq_nil
   have hk:(atP σ d x).overK=.nil:=by show nlK x.over=_;rw [h1];rfl
   rw [h0,hk];rfl
  ·have hk:(atP σ d x).overK=.loose:=by
    show nlK x.over=_
    unfold nlK
    cases hx:x.over with
    | nil=>exact absurd hx h1
    | cons _ _=>rfl
   have:=freeze_sl (d:=0) h2 h3 hcl
   rw [List.length_map] at this
   rw [hk,this]
   cases ((atP σ d x).over.map IdV.cells)<;>rfl
 have:=freezes_app (H:=X) (k:=start) (e:=1) (b:=[v]) (c:=[slAV (atP σ d x).overK ((atP σ d x).over.map IdV.cells)]) hc (by simp [hvv])
 rw [this,AtV.overU]
theorem CX.freeze {d:DigV} {start bl g bd:Nat} {L:List AtV} {X:Heap} (h:CX σ d start bl g bd L L.length X) (hp:∀l,(σ.i l).Perm l):freezeA X start 2 (.sl bl g 172 0 L.length)=some (.lst ((L.map (atP σ d)).map AtV.cells) false):=by
 obtain ⟨⟨rows,h1,h2,h3,_⟩,_,hlow,_⟩:=h
 have:=freeze_slx (d:=1) (qs:=(L.map (atP σ d)).map AtV.cells) h1 hlow (mapM_at (by simp [h2]) fun j hj hj'=>by
  have hjL:j<L.length:=by omega
  obtain ⟨row,hr,hR⟩:=h3 j L[j] hjL (List.getElem?_eq_getElem hjL)
  rw [List.getElem?_eq_getElem hj] at hr
  rw [Option.some.inj hr,hR.freeze hp]
  simp)
 rw [h2] at this
 exact this
def atomsP (σ:Sorts) (p:PatchV):List AtV:=(checkL p).map (atP σ p.dig)
theorem ret_completeP (S:SettingQ C σ) (p:PatchV) (hp:p.Good):Ret Tryz.prog C 59 [] [.agg p.cells] (.tup [.lst ((atomsP σ p).map AtV.cells) false,.int .i64 0]):=by
 refine ret_pure (S.pureP _ (by decide)) fun H=>?_
 refine (complete_walk S p hp H).mono fun r X=>?_
 rintro ⟨X,bl,g,bd,rfl,rfl,hX⟩
 exact freeze_two (hX.freeze S.permI) (by simp)
theorem ret_Atoms (S:SettingQ C σ) (p:PatchV) (hp:p.Good):Ret Tryz.prog C 26 [] [.agg p.cells] (.tup [.lst ((atomsP σ p).map AtV.cells) false,.int .i64 0]):=by
 refine ret_pure (S.pureP _ (by decide)) fun H=>func_rule Tryz.func26 rfl (S.prim _ (by decide)) (by simp) (by kernel_rfl) ?_
 unfold Tryz.f26
 have e:=(ret_completeP S p hp).eq
 simp [argS,e]
 exact freeze_closed (by simp [AV.closed,AV.closeds,closedss_at,closedss_map AtV.closed])
end Go.Proofs.Ev
namespace Go.Proofs.Ev
open Go.Proofs
variable {C:Cfg} {σ:Sorts}
def GrowA (sz:Nat) (X:Heap) (v:AV) (rows:List (List AV)):Prop:=(rows=[]∧v=.nils)∨v=.lst rows true∨∃b g,v=.sl b g sz 0 rows.length∧X[b]?=some (.rows sz g rows)
theorem GrowX.abs {n sz:Nat} {Z J:Heap} {v:AV} {rows:List (List AV)} (hg:GrowX n sz J v rows) (hn:n=Z.length):GrowA sz (Z++J) v rows:=by
 subst hn
 rcases hg with h | h | ⟨b,g,h,hb⟩
 ·exact .inl h
 ·exact .inr (.inl h)
 ·exact .inr (.inr ⟨_,g,h,by rw [app_get];exact hb⟩)
theorem GrowA.stays {sz sz':Nat} {X X':Heap} {v:AV} {rows:List (List AV)} (hg:GrowA sz X v rows) (hs:Stays sz' X X') (hne:sz≠sz'):GrowA sz X' v rows:=by
 rcases hg with h | h | ⟨b,g,h,hb⟩
 ·exact .inl h
 ·exact .inr (.inl h)
 ·exact .inr (.inr ⟨b,g,h,hs _ _ hb (by intro g' rs h;cases h;exact hne rfl)⟩)
theorem Stays.head {sz:Nat} {Z J J':Heap} (h:Stays sz J J'):Stays sz (Z++J) (Z++J'):=by
 intro k blk hk hb
 rcases Nat.lt_or_ge k Z.length with hz | hz
 ·rw [List.getElem?_append_left hz] at hk ⊢;exact hk
 ·rw [List.getElem?_append_right hz] at hk ⊢;exact h _ _ hk hb
theorem Stays.at {sz:Nat} {H J J':Heap} {a:Blk} (h:Stays sz J J'):Stays sz (H++a::J) (H++a::J'):=by
 have:=h.head (Z:=H++[a])
 simpa using this
theorem GrowA.at {P:Program} {t e:TypeId} {sz:Nat} (h:P.underlying t=some (.slice e)) (hs:szOf P e=some sz) {X:Heap} {v:AV} {rows:List (List AV)} (hg:GrowA sz X v rows) {i:Nat} (hi:i<rows.length) (hr:rows[i].length=sz) (k:IntKind) :
 ∃a,indexAddrA P t v (.int k (i:Int))=some a∧∀t',loadA P X t' a=takeVal P t' rows[i]:=by
 rcases hg with ⟨rfl,rfl⟩ | rfl | ⟨b,g,rfl,hb⟩
 ·simp at hi
 ·refine ⟨.eptr rows[i],?_,fun t'=>by simp⟩
  rw [ia_lst h hs];simp [hi,hr]
 ·refine ⟨.ptr b g sz i 0,?_,fun t'=>?_⟩
  ·rw [ia_sl h hs];simp [hi]
  ·rw [load_ptr,blkRow_eq hb];simp [hi]
theorem GrowA.len {P:Program} {t e:TypeId} (h:P.underlying t=some (.slice e)) {sz:Nat} {X H:Heap} {v:AV} {rows:List (List AV)} (hg:GrowA sz X v rows):lenA P H t v.denil=some (.int .i64 rows.length):=by
 rcases hg with ⟨rfl,rfl⟩ | rfl | ⟨b,g,rfl,_⟩
 ·exact len_lst h H [] true
 ·exact len_lst h H _ true
 ·exact len_sl h H _ _ _ _ _
theorem freeze_pre {H:Heap} {k d b g sz:Nat} {m z:List (List AV)} (hg:H[b]?=some (.rows sz g (m++z))) (hk:k≤b) (hc:AV.closedss m=true):freezeA H k (d+1) (.sl b g sz 0 m.length)=some (.lst m false):=by
 have h1:List.take m.length (m++z)=m:=by simp
 simp only [freezeA,AV.closed,Bool.false_eq_true,if_false,hk,if_true,rowsOf,hg,and_self,Nat.zero_add,List.length_append,Nat.le_add_right,List.drop_zero,h1,Option.bind_some,hc,Option.map_some]
def compL:List DigV→List DigV
 | a::b::l=>if a.d=b.d then compL (b::l) else a::compL (b::l)
 | l=>l
theorem compL_mem:∀(l:List DigV) (d:List Nat),(∃x∈compL l,x.d=d)↔∃x∈l,x.d=d
 | [],d=>by simp [compL]
 | [a],d=>by simp [compL]
 | a::b::l,d=>by
  have ih:=compL_mem (b::l) d
  rw [compL]
  split
  ·rename_i h
   rw [ih]
   constructor
   ·rintro ⟨x,hx,rfl⟩;exact ⟨x,by simp [List.mem_cons.1 hx],rfl⟩
   ·rintro ⟨x,hx,rfl⟩
    rcases List.mem_cons.1 hx with rfl | hx
    ·exact ⟨b,by simp,h.symm⟩
    ·exact ⟨x,hx,rfl⟩
  ·constructor
   ·rintro ⟨x,hx,rfl⟩
    rcases List.mem_cons.1 hx with rfl | hx
    ·exact ⟨x,by simp,rfl⟩
    ·obtain ⟨y,hy,he⟩:=ih.1 ⟨x,hx,rfl⟩;exact ⟨y,by simp [List.mem_cons.1 hy],he⟩
   ·rintro ⟨x,hx,rfl⟩
    rcases List.mem_cons.1 hx with rfl | hx
    ·exact ⟨x,by simp,rfl⟩
    ·obtain ⟨y,hy,he⟩:=ih.2 ⟨x,hx,rfl⟩;exact ⟨y,by simp [hy],he⟩
theorem compL_len:∀l:List DigV,(compL l).length≤l.length∧(l≠[]→compL l≠[])
 | []=>by simp [compL]
 | [a]=>by simp [compL]
 | a::b::l=>by
  have ih:=compL_len (b::l)
  rw [compL]
  split
  ·exact ⟨by have:=ih.1;simp at this ⊢;omega,fun _=>ih.2 (by simp)⟩
  ·exact ⟨by have:=ih.1;simp at this ⊢;omega,fun _=>by simp⟩
structure SettingR (C:Cfg) (σ:Sorts):Prop extends SettingQ C σ where
 permD:∀l,(σ.d l).Perm l
 sortD:∀{base:Nat} {H:Heap} {b g:Nat} {l:List DigV},l.length≤2^40→base≤b→H[b]?=some (.rows 32 g (l.map DigV.cells))→∀K:AV→Heap→Prop,
  CallW Tryz.prog C base (.fn 133 []) [.sl b g 32 0 l.length,.fn 76 []] H K=K (.tup []) (H.set b (.rows 32 g ((σ.d l).map DigV.cells)))
 sortD0:∀{base:Nat} {H:Heap} (K:AV→Heap→Prop),CallW Tryz.prog C base (.fn 133 []) [.lst [] true,.fn 76 []] H K=K (.tup []) H
 cloneD:∀{base:Nat} {H:Heap} {k:SK} {l:List DigV},l.length≤2^20→∀K:AV→Heap→Prop,CallW Tryz.prog C base (.fn 131 []) [slAV k (l.map DigV.cells)] H K =
  if l=[] then K (.lst [] true) H else K (.sl H.length 0 32 0 l.length) (H++[.rows 32 0 (l.map DigV.cells)])
 compD:∀{base:Nat} {H:Heap} {b g:Nat} {l:List DigV},l.length≤2^40→base≤b→H[b]?=some (.rows 32 g (l.map DigV.cells))→∃z,∀K:AV→Heap→Prop,
  CallW Tryz.prog C base (.fn 134 []) [.sl b g 32 0 l.length] H K=K (.sl b g 32 0 (compL l).length) (H.set b (.rows 32 g ((compL l).map DigV.cells++z)))
 compD0:∀{base:Nat} {H:Heap} (K:AV→Heap→Prop),CallW Tryz.prog C base (.fn 134 []) [.lst [] true] H K=K (.lst [] true) H
def refIds (c:ChV):List IdV:=(refsA c 0).map Prod.fst
theorem refIds_eq (c:ChV) (b:Nat):(refsA c b).map Prod.fst=refIds c:=by
 unfold refIds refsA refs3 refs4
 simp only [List.map_append,List.map_map]
 congr 2
 congr 1
 split<;>rfl
def others (l:List IdV):List DigV:=(l.filter fun x=>!zeroD x.d).map IdV.dv
def needL (p:PatchV):List DigV:=p.deps++(p.changes.map fun c=>others (refIds c)).flatten
def needsP (σ:Sorts) (p:PatchV):List DigV:=compL (σ.d (needL p))
theorem others_succ {l:List IdV} {i:Nat} {x:IdV} (h:l[i]?=some x):others (l.take (i+1))=others (l.take i)++(if zeroD x.d then [] else [x.dv]):=by
 unfold others
 rw [List.take_add_one,h]
 cases hz:zeroD x.d<;>simp [hz]
theorem refIds_len (c:ChV) (h:c.over.length≤400):(refIds c).length≤404:=by
 have n1:(refs1 c).length≤1:=by unfold refs1;split<;>simp
 have n2:(refs2 c).length≤1:=by unfold refs2;split<;>simp
 have n3:(refs3 c 0).length≤2:=by unfold refs3;split<;>simp
 have n4:(refs4 c 0 c.over.length).length≤400:=by simp [refs4];omega
 simp [refIds,refsA];omega
theorem others_len (l:List IdV):(others l).length≤l.length:=by unfold others;rw [List.length_map];exact List.length_filter_le _ _
def IsSlD (v:AV) (rows:List (List AV)):Prop:=(rows=[]∧v=.lst [] true)∨(rows≠[]∧∃b g l,v=.sl b g 32 0 l)
def NdIs (p:PatchV) (H:Heap) (l:List DigV) (v:AV) (X:Heap):Prop:=∃J,GrowX (H.length+1) 32 J v (l.map DigV.cells)∧IsSlD v (l.map DigV.cells)∧X=H++.rows 5 0 [p.cells]::J
set_option maxRecDepth 100000 in
set_option maxHeartbeats 8000000 in
theorem ret_Needs (S:SettingR C σ) (p:PatchV) (hp:p.Good):Ret Tryz.prog C 78 [] [.agg p.cells] (slAV (if needL p=[] then .exact else .loose) ((needsP σ p).map DigV.cells)):=by
 refine ret_pure (S.pureP _ (by decide)) fun H=>func_rule Tryz.func78 rfl (S.prim _ (by decide)) (by simp) (by kernel_rfl) ?_
 unfold Tryz.f78
 have ec:=(ret_CheckP S.toSettingP p hp).eq
 have hdl:=hp.head.2.2.2.2
 have hcl:=hp.head.2.2.1
 have ecl:=fun H' K=>S.cloneD (base:=H.length) (H:=H') (k:=p.depsK) (l:=p.deps) (by omega) K
 refine cut (fun s H'=>s 1=.ptr H.length 0 5 0 0∧H'=H++[.rows 5 0 [p.cells]]) ?_ ?_
 ·simp [argS]
 rintro s H' ⟨q1,rfl⟩
 refine cut (fun s H'=>s 1=.ptr H.length 0 5 0 0∧H'=H++[.rows 5 0 [p.cells]]) ?_ ?_
 ·simp [q1,ec]
 clear q1
 rintro s H' ⟨q1,rfl⟩
 refine cut (fun s H'=>s 1=.ptr H.length 0 5 0 0∧NdIs p H p.deps (s 3) H') ?_ ?_
 ·by_cases hd:p.deps=[]
  ·simp only [hd,List.map_nil,if_true] at ecl
   simp [q1,ecl,hd]
   exact ⟨[],.inr (.inl rfl),.inl ⟨rfl,rfl⟩,rfl⟩
  ·simp [q1,ecl,hd]
   exact ⟨_,.inr (.inr ⟨0,0,by simp,rfl⟩),.inr ⟨by simpa using hd,_,_,_,rfl⟩,rfl⟩
 clear q1
 rintro s X ⟨q1,hN⟩
 have rsz:∀(l:List DigV),∀r∈l.map DigV.cells,r.length=32:=fun l r hr=>by obtain ⟨y,_,rfl⟩:=List.mem_map.1 hr;simp
 refine cut (fun s X=>NdIs p H (needL p) (s 3) X∧(needL p).length≤2^20) ?_ ?_
 ·have hb1:blkRow X H.length 0 5 0=some p.cells:=by obtain ⟨J,_,_,rfl⟩:=hN;simp
  simp [q1,hb1]
  refine loop_count p.changes.length (fun i s X=>s 1=.ptr H.length 0 5 0 0∧s 15=slAV p.changesK (p.changes.map ChV.cells)∧s 16=.int .i64 p.changes.length∧s 17=.int .i64 i∧
   NdIs p H (p.deps++((p.changes.take i).map fun c=>others (refIds c)).flatten) (s 3) X∧(p.deps++((p.changes.take i).map fun c=>others (refIds c)).flatten).length≤100+404*i) ?_ ?_
  ·exact ⟨q1,rfl,rfl,rfl,by simpa using hN,by simp;omega⟩
  clear q1 hN hb1
  rintro i s X ⟨q1,q15,q16,q17,hN,hln⟩ hi
  by_cases h:i<p.changes.length
  rotate_left
  ·have h':i=p.changes.length:=by omega
   subst h'
   rw [List.take_length] at hN hln
   simp [q15,q16,q17]
   exact ⟨hN,Nat.le_trans hln (by omega)⟩
  obtain ⟨c,hc⟩:∃c,c=p.changes[i]:=⟨_,rfl⟩
  have hci:p.changes[i]?=some c:=by rw [hc];exact List.getElem?_eq_getElem h
  have hcg:=(hp.change hci).1
  obtain ⟨D,hD⟩:∃D,D=p.deps++((p.changes.take i).map fun c=>others (refIds c)).flatten:=⟨_,rfl⟩
  rw [←hD] at hN hln
  have hDs:p.deps++((p.changes.take (i+1)).map fun c=>others (refIds c)).flatten=D++others (refIds c):=by
   rw [hD,List.take_add_one,hci];simp
  have hRl:=refIds_len c hcg.on
  have hol:=others_len (refIds c)
  refine cut (fun s X=>s 18=.bool true∧s 1=.ptr H.length 0 5 0 0∧s 15=slAV p.changesK (p.changes.map ChV.cells)∧s 16=.int .i64 p.changes.length∧s 17=.int .i64 i∧NdIs p H D (s 3) X) ?_ ?_
  ·simp [q1,q15,q16,q17,h,hN]
  clear q1 q15 q16 q17 hN
  rintro s X ⟨q18,q1,q15,q16,q17,hN⟩
  refine cut (fun s X=>s 1=.ptr H.length 0 5 0 0∧s 15=slAV p.changesK (p.changes.map ChV.cells)∧s 16=.int .i64 p.changes.length∧s 17=.int .i64 i∧NdIs p H D (s 3) X) ?_ ?_
  ·simp [q1,q15,q16,q17,q18,hN]
  clear q1 q15 q16 q17 q18 hN
  rintro s X ⟨q1,q15,q16,q17,hN⟩
  refine cut (fun s X=>s 1=.ptr H.length 0 5 0 0∧s 15=slAV p.changesK (p.changes.map ChV.cells)∧s 16=.int .i64 p.changes.length∧s 17=.int .i64 i∧NdIs p H (D++others (refIds c)) (s 3) X) ?_ ?_
  rotate_left
  ·clear q1 q15 q16 q17 hN
   rintro s X ⟨q1,q15,q16,q17,hN⟩
   rw [←hDs] at hN
   have hln2:(p.deps++((p.changes.take (i+1)).map fun c=>others (refIds c)).flatten).length≤100+404*(i+1):=by rw [hDs,List.length_append];omega
   have wi:=wrap_succ h (by omega)
   simp [q1,q15,q16,q17,wi,h]
   exact ⟨by simpa using hN,by simpa using hln2⟩
  rw [wp_block]
  obtain ⟨v,q3⟩:∃v,s 3=v:=⟨_,rfl⟩
  rw [q3] at hN
  obtain ⟨J,hg,hv,rfl⟩:=hN
  obtain ⟨vr,Jr,hgr,er⟩:=references_ex S.toSettingL c hcg.on (base:=H.length) (H:=H++.rows 5 0 [p.cells]::(J++[.rows 139 0 [c.cells]])) (by simp)
  have hgrA:=hgr.abs (Z:=(H++.rows 5 0 [p.cells]::(J++[.rows 139 0 [c.cells]]))++[.rows 139 0 [c.cells],.rows 1 0 [[vr]]]) (by simp;omega)
  simp only [List.append_assoc,List.cons_append,List.nil_append] at er hgrA
  obtain ⟨b0,hb0⟩:∃b0,b0=(H++Blk.rows 5 0 [p.cells]::(J++[Blk.rows 139 0 [c.cells]])).length:=⟨_,rfl⟩
  rw [←hb0] at hgrA
  obtain ⟨R,hR⟩:∃R,R=refsA c b0:=⟨_,rfl⟩
  have hRi:R.map Prod.fst=refIds c:=by rw [hR];exact refIds_eq c b0
  have hRfn:∀x∈R,∃f cs,x.2=AV.fn f cs:=by rw [hR];exact refsA_fn
  rw [←hR] at hgrA
  clear hR hgr hb0
  have hRn:R.length=(refIds c).length:=by rw [←hRi];simp
  have hlen:=fun HH=>hgrA.len (P:=Tryz.prog) (t:=230) (e:=233) (H:=HH) (by simp)
  rw [List.length_map] at hlen
  refine cut (fun s X=>s 1=.ptr H.length 0 5 0 0∧s 15=slAV p.changesK (p.changes.map ChV.cells)∧s 16=.int .i64 p.changes.length∧s 17=.int .i64 i∧s 3=v∧s 5=.ptr (H.length+(J.length+1)) 0 139 0 0∧X=H++.rows 5 0 [p.cells]::(J++[.rows 139 0 [c.cells]])) ?_ ?_
  ·simp [q1,q15,q16,q17,q3,h,←hc,storeA,fillA]
  clear q1 q15 q16 q17 q3
  rintro s X ⟨q1,q15,q16,q17,q3,q5,rfl⟩
  simp [q1,q15,q16,q17,q3,q5,er,hlen]
  refine loop_count R.length (fun j s X=>s 1=.ptr H.length 0 5 0 0∧s 15=slAV p.changesK (p.changes.map ChV.cells)∧s 16=.int .i64 p.changes.length∧s 17=.int .i64 i∧s 22=vr∧s 23=.int .i64 R.length∧s 24=.int .i64 j∧NdIs p H (D++others ((refIds c).take j)) (s 3) X∧GrowA 34 X vr (R.map refRow)) ?_ ?_
  ·refine ⟨q1,q15,q16,q17,rfl,rfl,rfl,⟨_,by simpa [others,q3] using hg.app (Blk.rows 139 0 [c.cells]::.rows 139 0 [c.cells]::.rows 1 0 [[vr]]::Jr),by simpa [others,q3] using hv,by simp⟩,hgrA⟩
  clear q1 q15 q16 q17 q3 q5 hgrA er hg hv
  rintro j s X ⟨q1,q15,q16,q17,q22,q23,q24,hN,hgrA⟩ hj
  by_cases hjl:j<R.length
  rotate_left
  ·have h':j=R.length:=by omega
   subst h'
   rw [hRn,List.take_length] at hN
   simp [q1,q15,q16,q17,q22,q23,q24]
   exact hN
  obtain ⟨x,hx⟩:∃x,x=R[j]:=⟨_,rfl⟩
  have hxm:x∈R:=hx▸List.getElem_mem hjl
  obtain ⟨f,cs,hfn⟩:=hRfn x hxm
  have hxi:(refIds c)[j]?=some x.1:=by rw [←hRi,List.getElem?_map,List.getElem?_eq_getElem hjl,←hx];rfl
  obtain ⟨a,ha,hl⟩:=hgrA.at (P:=Tryz.prog) (t:=230) (e:=233) (by simp) sz233 (i:=j) (by simpa using hjl) (by simp) .i64
  simp only [List.getElem_map,←hx] at hl
  have r4:∀y∈x.1.cells++[x.2],y.leaf=true:=by
   intro y hy
   rcases List.mem_append.1 hy with hy | hy
   ·exact List.all_eq_true.1 x.1.leafs y hy
   ·rw [List.mem_singleton.1 hy,hfn];rfl
  have eo:=(ret_own S.toSettingF x.1).eq
  unfold refRow at hl
  obtain ⟨v2,q3⟩:∃v2,s 3=v2:=⟨_,rfl⟩
  rw [q3] at hN
  obtain ⟨J2,hg,hv,rfl⟩:=hN
  have hsu:=others_succ hxi
  have hb1:H.length≤H.length+(J2.length+1):=by omega
  cases hz:zeroD x.1.d with
  | true =>
   rw [hz,if_pos rfl,List.append_nil] at hsu
   simp [q1,q15,q16,q17,q22,q23,q24,q3,hjl,ha,hl,storeA,fillA,r4,eo,hz,wrap_succ hjl (by omega)]
   rw [hsu]
   exact ⟨⟨_,hg.app _,hv,rfl⟩,hgrA.stays (Stays.app (sz:=32) J2 _).at (by decide)⟩
  | false =>
   rw [hz,if_neg (by decide)] at hsu
   have hDl:(D++others ((refIds c).take j)).length≤2^20:=by
    have:=others_len ((refIds c).take j)
    simp only [List.length_append,List.length_take] at this ⊢
    omega
   obtain ⟨v3,J3,hap,hg3,hst⟩:=GrowX.appendP (P:=Tryz.prog) (base:=H.length) (Z:=H++[.rows 5 0 [p.cells]]) (J:=J2++[.rows 34 0 [x.1.cells++[x.2]]]) (n:=H.length+1) (ts:=#[60,60]) (e:=25) (xd:=.slice 25) (rows:=(D++others ((refIds c).take j)).map DigV.cells) (x:=.lst [x.1.dv.cells] true) (ys:=[x.1.dv.cells]) (v:=v2)
    (by simp) (by simp) sz25 by25 (by simp [show digest0.length=32 by decide]) (by decide) (by simp) (by simp) (hg.app _) (rsz _) rfl (by simp) (by simp at hDl ⊢;omega)
   have hv3:=appendA_sl (P:=Tryz.prog) (e:=25) (xd:=.slice 25) (by simp) (by simp) sz25 by25 (x:=.lst [x.1.dv.cells] true) (ys:=[x.1.dv.cells]) rfl (by simp) hap
   simp only [List.append_assoc,List.cons_append,List.nil_append] at hap
   have hdv:x.1.dv.cells=dig x.1.d:=rfl
   rw [hdv] at hap hg3
   have h32:x.1.d.length=32:=x.1.h
   have ht32:List.take 32 (x.1.cells++[x.2])=dig x.1.d:=by rw [List.take_append_of_le_length (by simp),x.1.dig]
   have hd0:digest0.length=32:=by decide
   have hlf:∀y∈dig x.1.d,y.leaf=true:=by intro y hy;obtain ⟨n,_,rfl⟩:=List.mem_map.1 hy;rfl
   simp [q1,q15,q16,q17,q22,q23,q24,q3,hjl,ha,hl,storeA,fillA,r4,eo,hz,h32,ht32,hd0,hlf,buildSliceA,fillRows,hap,wrap_succ hjl (by omega)]
   rw [hsu,←List.append_assoc]
   exact ⟨⟨J3,by simpa [hdv] using hg3,.inr ⟨by simp,hv3⟩,rfl⟩,hgrA.stays ((Stays.app (sz:=32) J2 _).trans hst).at (by decide)⟩
 rintro s X ⟨hN,hnl⟩
 obtain ⟨v,q3⟩:∃v,s 3=v:=⟨_,rfl⟩
 rw [q3] at hN
 obtain ⟨J,hg,hv,rfl⟩:=hN
 have hperm:=S.permD (needL p)
 rcases hv with ⟨h0,rfl⟩ | ⟨h0,b',g',l',hv⟩
 ·have hl0:needL p=[]:=by simpa using h0
  have e1:=fun H' K=>S.sortD0 (base:=H.length) (H:=H') K
  have e2:=fun H' K=>S.compD0 (base:=H.length) (H:=H') K
  have hn0:needsP σ p=[]:=by
   rw [hl0] at hperm
   rw [needsP,hl0,hperm.eq_nil];rfl
  simp [q3,e1,e2,hl0,hn0]
  exact freeze_closed rfl
 ·obtain ⟨b,g,rfl,hb⟩:∃b g,v=.sl (H.length+1+b) g 32 0 (needL p).length∧J[b]?=some (.rows 32 g ((needL p).map DigV.cells)):=by
   rcases hg with ⟨_,h⟩ | h | ⟨b,g,h,hb⟩
   ·rw [hv] at h;cases h
   ·rw [hv] at h;cases h
   ·exact ⟨b,g,by rw [h,List.length_map],hb⟩
  have hl0:needL p≠[]:=by simpa using h0
  have hbJ:b<J.length:=(List.getElem?_eq_some_iff.1 hb).1
  have hsl:(σ.d (needL p)).length=(needL p).length:=hperm.length_eq
  have e1:=fun K=>S.sortD (base:=H.length) (H:=H++.rows 5 0 [p.cells]::J) (b:=H.length+1+b) (g:=g) (l:=needL p) (by omega) (by omega) (by rw [get_at];exact hb) K
  rw [set_at] at e1
  obtain ⟨z,e2⟩:=S.compD (base:=H.length) (H:=H++.rows 5 0 [p.cells]::J.set b (.rows 32 g ((σ.d (needL p)).map DigV.cells))) (b:=H.length+1+b) (g:=g) (l:=σ.d (needL p)) (by rw [hsl];omega) (by omega) (by rw [get_at,List.getElem?_set_self hbJ])
  rw [set_at,hsl] at e2
  simp [q3,e1,e2]
  rw [if_neg hl0]
  have hf:=freeze_pre (d:=2) (k:=H.length) (b:=H.length+1+b) (g:=g) (H:=H++.rows 5 0 [p.cells]::(J.set b (.rows 32 g ((σ.d (needL p)).map DigV.cells))).set b (.rows 32 g ((compL (σ.d (needL p))).map DigV.cells++z))) (m:=(compL (σ.d (needL p))).map DigV.cells) (z:=z) (by rw [get_at,List.getElem?_set_self (by simpa using hbJ)]) (by omega) (closedss_map DigV.closed _)
  rw [List.length_map] at hf
  simp only [List.set_set] at hf
  rw [hf]
  unfold needsP
  cases (compL (σ.d (needL p))).map DigV.cells<;>rfl
end Go.Proofs.Ev
namespace Go.Proofs.Ev
open Go.Proofs
set_option maxRecDepth 100000 in
theorem clone_eq (base:Nat) (H:Heap) (k:SK) (l:List DigV) (hl:l.length≤2^20):pClone base [slAV k (l.map DigV.cells)] H=if l=[] then some (.lst [] true,H) else some (.sl H.length 0 32 0 l.length,H++[.rows 32 0 (l.map DigV.cells)]):=by
 by_cases h0:l=[]
 ·subst h0
  rw [if_pos rfl]
  cases k<;>rfl
 ·rw [if_neg h0]
  have hx:∃e,slAV k (l.map DigV.cells)=.lst (l.map DigV.cells) e:=by
   cases l with
   | nil=>exact absurd rfl h0
   | cons a l=>cases k<;>exact ⟨_,rfl⟩
  obtain ⟨e,he⟩:=hx
  rw [he]
  have hp:pClone base [.lst (l.map DigV.cells) e] H=evalP Tryz.prog cfg0 131 base [.lst (l.map DigV.cells) e] H:=by
   cases l with
   | nil=>exact absurd rfl h0
   | cons a l=>rfl
  rw [hp]
  refine evalP_eq (func_rule Tryz.func131 rfl rfl (by simp) (by kernel_rfl) ?_)
  unfold Tryz.f131
  have heq:binA Tryz.prog cfg0 .eql 60 (.lst (l.map DigV.cells) e) .nils=some (.bool false):=by
   cases l with
   | nil=>exact absurd rfl h0
   | cons a l=>simp [binA,eqA]
  have ha:appendA Tryz.prog base H #[60,60] (.lst [] true) (.lst (l.map DigV.cells) e)=some (.sl H.length 0 32 0 l.length,H++[.rows 32 0 (l.map DigV.cells)]):=by
   have h1:((#[60,60]:Array TypeId)[0]?).bind Tryz.prog.underlying=some (.slice 25):=by simp
   have h2:((#[60,60]:Array TypeId)[1]?).bind Tryz.prog.underlying=some (.slice 25):=by simp
   have hz:(ofZero Tryz.prog 25).map (fun z=>z.cells.length)=some 32:=by simp [show digest0.length=32 by decide]
   have hall:(l.map DigV.cells).all (fun r=>decide (r.length=32))=true:=by simp
   unfold appendA
   simp only [h1,h2,sz25,by25,tailRows,rowsOf]
   rw [if_pos ⟨hall,by decide,hz⟩,if_neg (by simp [h0]),if_pos ⟨trivial,by simp;omega,by simp⟩]
   simp
  simp [argS,heq,buildSliceA,fillRows,ofZero,ha]
end Go.Proofs.Ev
namespace Go.Proofs.Ev
open Go.Proofs
variable {P:Program} {C:Cfg}
theorem prim_call {f:FuncId} {p:Nat→List AV→Heap→Option (AV×Heap)} (hp:C.prim f=some p) (h1:C.pure f=false) (h2:C.frz f=false) {base:Nat} {caps args:List AV} {H:Heap} {v:AV} {H':Heap} (h:p base (args++caps) H=some (v,H')) (K:AV→Heap→Prop):CallW P C base (.fn f caps) args H K=K v H':=by
 refine CallW.eq ⟨2,v,H',?_,rfl,rfl⟩ K
 simp only [callA,h1,h2,funcA,hp,h,Bool.false_eq_true,if_false]
theorem clone_call (hp:C.prim 131=some pClone) (h1:C.pure 131=false) (h2:C.frz 131=false) {base:Nat} {H:Heap} {k:SK} {l:List DigV} (hl:l.length≤2^20) (K:AV→Heap→Prop) :
 CallW P C base (.fn 131 []) [slAV k (l.map DigV.cells)] H K=if l=[] then K (.lst [] true) H else K (.sl H.length 0 32 0 l.length) (H++[.rows 32 0 (l.map DigV.cells)]):=by
 have e:=clone_eq base H k l hl
 by_cases h0:l=[]
 ·rw [if_pos h0] at e ⊢
  exact prim_call hp h1 h2 e K
 ·rw [if_neg h0] at e ⊢
  exact prim_call hp h1 h2 e K
theorem cmp_call (hp:C.prim 128=some pCmp) (h1:C.pure 128=false) (h2:C.frz 128=false) {base:Nat} {H:Heap} {a b:AV} {x y:List Nat} (hl:x.length=y.length) (hx:∀n∈x,n<256) (hy:∀n∈y,n<256)
 (ha:rowsOf H a.denil=some ((dig x).map fun c=>[c])) (hb:rowsOf H b.denil=some ((dig y).map fun c=>[c])) (K:AV→Heap→Prop):CallW P C base (.fn 128 []) [a,b] H K=K (.int .i64 (cmpD x y)) H:=by
 have key:∀{x:List Nat},(∀n∈x,n<256)→((dig x).map fun c=>[c]).mapM byteR=some x:=by
  intro x
  induction x with
  | nil=>intro _;rfl
  | cons n x ih =>
   intro h
   have i:=ih fun m hm=>h m (by simp [hm])
   have hn:=h n (by simp)
   have hb:byteR [AV.int .u8 (n:Int)]=some n:=by
    show (if (0:Int)≤(n:Int)∧(n:Int)<256 then some (n:Int).toNat else none)=some n
    rw [if_pos ⟨by omega,by omega⟩];simp
   show List.mapM byteR ([AV.int .u8 (n:Int)]::(dig x).map fun c=>[c])=_
   rw [List.mapM_cons,hb,i];rfl
 have e:pCmp base [a,b] H=some (.int .i64 (cmpD x y),H):=by
  simp only [pCmp,bytesB,ha,hb,Option.bind_some,key hx,key hy,hl,if_true]
 exact prim_call hp h1 h2 e K
theorem itoa_call (hp:C.prim 145=some pItoa) (h1:C.pure 145=false) (h2:C.frz 145=false) (n:Int) (l1 : -(2^62)≤n) (l2:n≤2^62) (base:Nat) (H:Heap) (K:AV→Heap→Prop):CallW P C base (.fn 145 []) [.int .i64 n] H K=K (.str (decI n)) H:=by
 have e:pItoa base [.int .i64 n] H=some (.str (decI n),H):=by
  show (if -9223372036854775808≤n∧n≤9223372036854775807 then some (AV.str (decI n),H) else none)=_
  rw [if_pos ⟨by omega,by omega⟩]
 exact prim_call hp h1 h2 e K
theorem idx_neg:∀(s:List UInt8) (c:UInt8),Lib.indexByte s c<0↔¬c∈s
 | [],c=>by simp [Lib.indexByte]
 | b::s,c=>by
  have ih:=idx_neg s c
  have hg:=Lib.indexByte_ge s c
  unfold Lib.indexByte
  by_cases hb:b=c
  ·subst hb;simp
  ·have hb2:(b==c)=false:=by simpa using hb
   have hm:c∈b::s↔c∈s:=by simp [Ne.symm hb]
   rw [hb2,hm,←ih]
   simp only [Bool.false_eq_true,if_false]
   by_cases h1:Lib.indexByte s c = -1
   ·rw [h1];simp
   ·have h2:(Lib.indexByte s c==-1)=false:=by simpa using h1
    rw [h2]
    simp only [Bool.false_eq_true,if_false]
    omega
theorem idx_call (hp:C.prim 311=some pIdx) (h1:C.pure 311=false) (h2:C.frz 311=false) (s:List UInt8) (c:UInt8):∃n:Int,(n<0↔¬c∈s)∧∀base H (K:AV→Heap→Prop),CallW P C base (.fn 311 []) [.str s,.int .u8 c.toNat] H K=K (.int .i64 n) H:=by
 refine ⟨Lib.indexByte s c,?_,fun base H K=>?_⟩
 ·exact idx_neg s c
 ·have e:pIdx base [.str s,.int .u8 c.toNat] H=some (.int .i64 (Lib.indexByte s c),H):=by
   show some (AV.int .i64 (Lib.indexByte s ((c.toNat:Int)).toNat.toUInt8),H)=_
   simp
  exact prim_call hp h1 h2 e K
end Go.Proofs.Ev
namespace Go.Proofs.Ev
open Go.Proofs
variable {N:Low} {φ:Phi} {H:Heap} {w w':World}
theorem liesAt_row {P:Program} {e:TypeId} {s:Nat} (hc:P.cellsOf e=s) (hs:s≠0) (count n:Nat) (hn:n≤count):liesAt P P.depth e count 0 e n=true:=by
 have hd:P.depth=(2*(P.types.size+Made.depth)+1)+1:=rfl
 rw [hd]
 simp only [liesAt,Bool.or_eq_true]
 left
 rw [hd]
 simp [rowAt,hc,hn,hs,sameLayout]
def TagHere (N:Low):Prop:=(∀T,N.tag 1 T→T=372)∧∀T,N.tag 2 T→T=5
set_option maxRecDepth 100000 in
set_option maxHeartbeats 1000000 in
theorem call_copy0 {k:Nat} {cs:Array Value} {fr:Nat×Nat} (hk:w.heap[k]?=some (.cells cs 372 fr)) (h2:2≤cs.size) (h0:w.cell? ⟨k,0,none⟩=some (.pointer none)) (hf:w.frozen? ⟨k,0,none⟩=false)
 (hs:(Instr.storeAt 370 (.pointer (some ⟨k,0,none⟩)) (.pointer (some ⟨k,0,none⟩))).run Tryz.prog w=.ok () w') :
 CallsIn (Fw none) 0 Tryz.prog 394 #[.pointer (some ⟨k,0,none⟩)] w fun e w2=>e=.returned (.tuple #[])∧w2=w':=by
 refine callsIn_of_wp Tryz.func394 rfl trivial ?_ rfl
 have hn:Tryz.f394.ntmps=20:=rfl
 simp only [hn,List.size_toArray,List.length_cons,List.length_nil,Nat.reduceAdd,Nat.reduceSub,Array.replicate_succ,Array.replicate_zero,List.push_toArray,List.append_toArray,List.nil_append,List.cons_append]
 gi_wp2
 have hsh:w.shape? k=some (372,cs.size):=by simp [World.shape?,hk]
 have hcs:Tryz.prog.cellsOf 372=2:=by kernel_rfl
 rw [Lib.run_to_unsafe (src:=370) (t:=372) w ⟨k,0,none⟩ Tryz.underlying370 (by kernel_rfl) (info_of Tryz.typeInfo372) (by decide) hsh (by show 0<cs.size;omega)]
 simp only [Result.andThen]
 gi_wp2
 rw [run_callFunc_extern Tryz.func410 (by kernel_rfl) (by kernel_rfl) (by kernel_rfl) (e:=Extern.AbiNoEscape.same) (by kernel_rfl),Lib.run_noEscape]
 simp only [Result.andThen]
 gi_wp2
 rw [Lib.run_from_unsafe (dst:=370) (u:=372) w ⟨k,0,none⟩ (by kernel_rfl) Tryz.underlying370 (info_of Tryz.typeInfo372) hsh (liesAt_row hcs (by decide) _ _ (by rw [hcs];omega))]
 simp only [Result.andThen]
 gi_wp2
 have hst:(Instr.storeAt 370 (.pointer (some ⟨k,0,none⟩)) (.pointer (some ⟨k,0,none⟩))).run Tryz.prog w=.ok () (w.setCell ⟨k,0,none⟩ (.pointer (some ⟨k,0,none⟩))):=by
  simp [Instr.storeAt,Instr.sureAddr,storeVar,go_sem,stored,hf,h0,Tryz.sizeOf370,Tryz.isAgg370]
 rw [hst] at hs
 cases hs
 go_end0
 exact ⟨rfl,rfl⟩
set_option maxRecDepth 100000 in
set_option maxHeartbeats 1000000 in
theorem call_copy1 {k:Nat} (h0:w.cell? ⟨k,0,none⟩=some (.pointer (some ⟨k,0,none⟩))) :
 CallsIn (Fw none) 0 Tryz.prog 394 #[.pointer (some ⟨k,0,none⟩)] w fun e w2=>e=.returned (.tuple #[])∧w2=w:=by
 refine callsIn_of_wp Tryz.func394 rfl trivial ?_ rfl
 have hn:Tryz.f394.ntmps=20:=rfl
 simp only [hn,List.size_toArray,List.length_cons,List.length_nil,Nat.reduceAdd,Nat.reduceSub,Array.replicate_succ,Array.replicate_zero,List.push_toArray,List.append_toArray,List.nil_append,List.cons_append]
 gi_wp2
 rw [Lib.run_neq_ptr_same w ⟨k,0,none⟩ Tryz.underlying370 (info_of Tryz.typeInfo372)]
 simp only [Result.andThen]
 gi_wp2
 go_end0
 exact ⟨rfl,rfl⟩
set_option maxRecDepth 100000 in
set_option maxHeartbeats 1000000 in
theorem call_bstr {k g cap cells:Nat} {l:List UInt8} (h1:w.cell? ⟨k,1,none⟩=some (.slice (some ⟨g,0,none⟩) l.length cap)) (hg:w.shape? g=some (5,cells)) (h0:l≠[]) (hn:l.length≤cells) (hc:l.length≤cap) (hm:l.length≤2^60)
 (hcell:∀j x,l[j]?=some x→w.cell? ((⟨g,0,none⟩:Addr).add j)=some (.int .u8 x.toNat)) :
 CallsIn (Fw none) 0 Tryz.prog 325 #[.pointer (some ⟨k,0,none⟩)] w fun e w2=>e=.returned (.string ⟨l.toArray⟩)∧w2=w.drew.freeze ⟨g,0,none⟩ l.length:=by
 have hl0:l.length≠0:=by simpa using h0
 have c1:w.drew.cell? ⟨k,1,none⟩=some (.slice (some ⟨g,0,none⟩) l.length cap):=h1
 have hSD:(Builtin.unsafeSliceData_ #[227] 414 #[.slice (some ⟨g,0,none⟩) l.length cap]).run Tryz.prog w.drew=.ok (.pointer (some ⟨g,0,none⟩)) w.drew :=
  Lib.run_unsafeSliceData_row _ _ _ _ _ _ (by omega)
 have hUS:(Builtin.unsafeString_ #[414,3] 9 #[.pointer (some ⟨g,0,none⟩),.int .i64 l.length]).run Tryz.prog w.drew=.ok (.string ⟨l.toArray⟩) (w.drew.freeze ⟨g,0,none⟩ l.length) :=
  Lib.run_unsafeString_row w.drew 414 3 9 5 Tryz.underlying414 (by kernel_rfl) g cells hg l h0 hn (by omega) hcell
 have mixed:Tryz.prog.follows .mixedOrders=true:=by kernel_rfl
 refine callsIn_of_wp Tryz.func325 rfl trivial ?_ rfl
 have hn:Tryz.f325.ntmps=14:=rfl
 simp only [hn,List.size_toArray,List.length_cons,List.length_nil,Nat.reduceAdd,Nat.reduceSub,Array.replicate_succ,Array.replicate_zero,List.push_toArray,List.append_toArray,List.nil_append,List.cons_append]
 gi_wp2
 gi_region
 gi_wp2
 go_ret
 exact ⟨rfl,rfl⟩
theorem frz_size {a:Addr} {n:Nat}:(w.freeze a n).heap.size=w.heap.size:=by unfold World.freeze;split<;>simp
theorem frz_other {a:Addr} {n k:Nat} (h:k≠a.block):(w.freeze a n).heap[k]?=w.heap[k]?:=by
 unfold World.freeze
 split
 ·rfl
 ·simp only [Array.getElem?_modify];rw [if_neg (Ne.symm h)]
theorem frz_env {a:Addr} {n:Nat}:SameEnv w (w.freeze a n):=by
 unfold World.freeze
 split<;>exact .refl
theorem HR.free (h:HR N φ H w) {b:Nat} {L:Loc} (hL:φ b=some L) (hc:∀r:Loop,w.heap[L.cb]?≠some (.loop r)) (hs:w'.heap.size=w.heap.size) (ho:∀k,k≠L.cb→w'.heap[k]?=w.heap[k]?) (he:SameEnv w w') :
 HR N (delLoc φ b) (H.set b .dead) w'∧Ext φ H.length w (delLoc φ b) (H.set b .dead).length w':=by
 have hx:Ext φ H.length w (delLoc φ b) H.length w' :=
  {le:=Nat.le_refl _
   env:=he
   size:=by omega
   loc:=fun k _ L' hL'=>by
    simp only [delLoc] at hL'
    split at hL'
    ·cases hL'
    ·exact ⟨L',hL',Nat.le_refl _,fun _=>rfl⟩
   same:=fun cb o hc' hn=>(ho cb fun e=>hn.1 b L hL e.symm).trans hc'
   nolive:=fun cb _ hn=>by
    refine ⟨fun k L' hL'=>?_,hn.2⟩
    simp only [delLoc] at hL'
    split at hL'
    ·cases hL'
    ·exact hn.1 k L' hL'
   res:=rfl
   keep:=fun cb o hr hc'=>(ho cb fun e=>h.resn b L hL (by rw [←e];exact hr)).trans hc'
   loops:=fun cb r hc'=>⟨r,(ho cb fun e=>hc r (by rw [←e];exact hc')).trans hc'⟩ }
 have hno:∀y:Blk,y≠.dead→(H.set b .dead)[b]?≠some y:=by
  intro y hy e
  rcases Nat.lt_or_ge b H.length with h1 | h1
  ·simp [h1] at e;exact hy e.symm
  ·rw [List.getElem?_eq_none (by simpa using h1)] at e;cases e
 refine ⟨h.change (by simpa using hx) b ?_ ?_ ?_ ?_ ?_ ?_ ?_ ?_ ?_,by simpa using hx⟩
 ·intro k hk;exact List.getElem?_set_ne (Ne.symm hk)
 ·intro k hk;simp [delLoc,hk]
 ·intro k L' hk hL';exact ho _ fun e=>hk (h.inj k b L' L hL' hL e)
 ·intro _;simp [delLoc]
 ·intro L' hL';simp [delLoc] at hL'
 ·intro _ _ _ hb;exact absurd hb (hno _ (by simp))
 ·intro _ hb;exact absurd hb (hno _ (by simp))
 ·intro _ _ _ _ _ _ hb;exact absurd hb (hno _ (by simp))
 ·intro _ _ _ hb;exact absurd hb (hno _ (by simp))
def byteU:List AV→Option UInt8
 | [.int .u8 n]=>if 0≤n∧n<256 then some (UInt8.ofNat n.toNat) else none
 | _=>none
theorem byteU_mapM:∀{rows:List (List AV)} {x:List UInt8},rows.mapM byteU=some x→rows=x.map bR
 | [],x,h=>by simp at h;subst h;simp
 | r::rows,x,h=>by
  rw [List.mapM_cons] at h
  cases hr:byteU r with
  | none=>rw [hr] at h;simp at h
  | some n =>
   rw [hr] at h
   cases hm:rows.mapM byteU with
   | none=>rw [hm] at h;simp at h
   | some y =>
    rw [hm] at h
    simp at h;subst h
    rw [List.map_cons,←byteU_mapM hm]
    congr 1
    unfold byteU at hr
    split at hr
    ·rename_i k
     split at hr
     ·rename_i hk
      cases hr
      unfold bR
      congr 2
      rw [UInt8.toNat_ofNat',Nat.mod_eq_of_lt (by omega)]
      omega
     ·cases hr
    ·cases hr
theorem byteU_map:∀l:List UInt8,(l.map bR).mapM byteU=some l
 | []=>rfl
 | x::l=>by
  have hb:byteU (bR x)=some x:=by
   have:=x.toNat_lt
   show (if (0:Int)≤(x.toNat:Int)∧(x.toNat:Int)<256 then some (UInt8.ofNat (x.toNat:Int).toNat) else none)=some x
   rw [if_pos ⟨by omega,by omega⟩];simp
  rw [List.map_cons,List.mapM_cons,hb,byteU_map l];rfl
def pCopy (base:Nat) (args:List AV) (H:Heap):Option (AV×Heap) :=
 match args with
 | [.ptr b 1 2 0 0] =>
  match H[b]? with
  | some (.rows 2 1 [[a,v]])=>if base≤b then match a with
   | .nilp=>some (.tup [],H.set b (.rows 2 1 [[.ptr b 1 2 0 0,v]]))
   | .ptr b' 1 2 0 0=>if b'=b then some (.tup [],H.set b (.rows 2 1 [[.ptr b 1 2 0 0,v]])) else none
   | _=>none
   else none
  | _=>none
 | _=>none
def pStr (base:Nat) (args:List AV) (H:Heap):Option (AV×Heap) :=
 match args with
 | [.ptr b 1 2 0 0] =>
  match H[b]? with
  | some (.rows 2 1 [[_,.sl b' g' 1 0 len]]) =>
   match H[b']? with
   | some (.rows 1 g'' rs) =>
    match rs.mapM byteU with
    | some l=>if base≤b'∧g' % 4=2∧g''=g'∧l.length=len∧len≠0∧len≤2^60 then some (.str l,H.set b' .dead) else none
    | none=>none
   | _=>none
  | _=>none
 | _=>none
theorem copy_ok (hT:TagHere N):PrimOK Tryz.prog N 394 pCopy:=by
 refine ⟨⟨_,Tryz.func394,rfl⟩,fun base args H v H' h φ w Vs hb hH ht=>?_⟩
 unfold pCopy at h
 split at h
 ·rename_i b
  split at h
  ·rename_i a u hblk
   split at h
   ·rename_i hbb
    obtain ⟨X,rfl,h1⟩:=two_one ht
    obtain ⟨L,cs,T,fr,e1,e2,e3,e4,e5,e6⟩:=hH.rows _ _ _ _ hblk
    have hTT:=hT.1 T (e5.2.1.1 rfl)
    subst hTT
    have hs2:2≤cs.size:=by have:=e6.1;simpa using this
    have hX:=h1
    cases h1 with
    | ptr hbn hh =>
     rename_i ad
     have ha:=(hh L e1).2 e2.symm
     simp only [Nat.zero_mul,Nat.zero_add] at ha
     subst ha
     obtain ⟨_,V,c1,c2⟩:=(e6.2 0 _ rfl).2 0 a rfl
     simp only [Nat.zero_mul,Nat.zero_add] at c1
     have hc0:w.cell? ⟨L.cb,0,none⟩=some V:=by simp only [World.cell?,e3];exact c1
     split at h
     ·cases h
      cases c2
      have hst:storeA Tryz.prog base H 370 (.ptr b 1 2 0 0) (.ptr b 1 2 0 0)=some (H.set b (.rows 2 1 [[.ptr b 1 2 0 0,u]])):=by
       have hsz:szOf Tryz.prog 370=some 1:=sz_of (info_of Tryz.typeInfo370) rfl
       simp [storeA,hsz,hblk,hbb,AV.cells,AV.leaf]
      obtain ⟨w',s1,s2,s3,s4⟩:=storeA_sound (P:=Tryz.prog) hH hX hX hst
      refine (call_copy0 e3 hs2 hc0 (by simp only [World.frozen?,e3];rw [Bool.eq_false_iff];intro hh;exact e5.1 0 (by omega) (by simpa using hh)) s1).mono ?_
      rintro e w2 ⟨rfl,rfl⟩
      exact ⟨_,φ,rfl,.tup rfl (fun j v V hj=>by simp at hj),s2,s3,s4⟩
     ·rename_i b' _
      split at h
      ·rename_i hbe
       subst hbe
       cases h
       have hset:H.set b' (.rows 2 1 [[.ptr b' 1 2 0 0,u]])=H:=by
        apply List.ext_getElem?
        intro k
        by_cases hk:b'=k
        ·subst hk
         rw [List.getElem?_set_self (List.getElem?_eq_some_iff.1 hblk).1,hblk]
        ·rw [List.getElem?_set_ne hk]
       rw [hset]
       cases c2 with
       | ptr _ hh2 =>
        rename_i ad2
        have ha2:=(hh2 L e1).2 e2.symm
        simp only [Nat.zero_mul,Nat.zero_add] at ha2
        subst ha2
        refine (call_copy1 hc0).mono ?_
        rintro e w2 ⟨rfl,rfl⟩
        exact ⟨_,φ,rfl,.tup rfl (fun j v V hj=>by simp at hj),hH,Ext.refl,fun _ _=>rfl⟩
      ·cases h
     ·cases h
   ·cases h
  ·cases h
 ·cases h
theorem str_ok (hT:TagHere N):PrimOK Tryz.prog N 325 pStr:=by
 refine ⟨⟨_,Tryz.func325,rfl⟩,fun base args H v H' h φ w Vs hb hH ht=>?_⟩
 unfold pStr at h
 split at h
 ·rename_i b
  split at h
  ·rename_i a b' g' len hblk
   split at h
   ·rename_i g'' rs hblk'
    split at h
    ·rename_i l hl
     split at h
     ·rename_i hc
      obtain ⟨hbb,hg4,rfl,rfl,hl0,hl60⟩:=hc
      cases h
      obtain ⟨X,rfl,h1⟩:=two_one ht
      obtain ⟨L,cs,T,fr,e1,e2,e3,e4,e5,e6⟩:=hH.rows _ _ _ _ hblk
      obtain ⟨L',cs',T',fr',f1,f2,f3,f4,f5,f6⟩:=hH.rows _ _ _ _ hblk'
      have hTT:=hT.2 T' (f5.2.1.2 hg4)
      subst hTT
      have hrs:=byteU_mapM hl
      subst hrs
      have hfit:l.length≤cs'.size:=by have:=f6.1;simpa using this
      cases h1 with
      | ptr hbn hh =>
       rename_i ad
       have ha:=(hh L e1).2 e2.symm
       simp only [Nat.zero_mul,Nat.zero_add] at ha
       subst ha
       obtain ⟨_,V,c1,c2⟩:=(e6.2 0 _ rfl).2 1 _ rfl
       simp only [Nat.zero_mul,Nat.zero_add] at c1
       have hc1:w.cell? ⟨L.cb,1,none⟩=some V:=by simp only [World.cell?,e3];exact c1
       cases c2 with
       | sl hb2 hcap hh2 =>
        rename_i cap a2
        obtain ⟨ha2,_⟩:=(hh2 L' f1).2 f2.symm
        simp only [Nat.zero_mul] at ha2
        subst ha2
        have hcell:∀j x,l[j]?=some x→w.cell? ((⟨L'.cb,0,none⟩:Addr).add j)=some (.int .u8 x.toNat):=by
         intro j x hx
         obtain ⟨_,V,d1,d2⟩:=(f6.2 j (bR x) (by simp [hx])).2 0 _ rfl
         cases d2
         have hadd:((⟨L'.cb,0,none⟩:Addr).add j)=⟨L'.cb,j,none⟩:=by by_cases hj:j=0<;>simp [Addr.add,hj]
         rw [hadd]
         simp only [World.cell?,f3]
         simpa using d1
        refine (call_bstr (cells:=cs'.size) hc1 (by simp [World.shape?,f3]) (by intro e;subst e;exact hl0 rfl) hfit hcap hl60 hcell).mono ?_
        rintro e w2 ⟨rfl,rfl⟩
        obtain ⟨g1,g2⟩:=hH.free (w':=w.drew.freeze ⟨L'.cb,0,none⟩ l.length) f1 (fun r hr=>by rw [f3] at hr;cases hr) (by rw [frz_size];rfl) (fun k hk=>by rw [frz_other hk];rfl) (frz_env (w:=w.drew))
        refine ⟨_,_,rfl,.str _,g1,g2,fun k hk=>?_⟩
        rw [List.getElem?_set_ne (by omega)]
     ·cases h
    ·cases h
   ·cases h
  ·cases h
 ·cases h
theorem copy_call {C:Cfg} (hp:C.prim 394=some pCopy) (h1:C.pure 394=false) (h2:C.frz 394=false) {base:Nat} {H:Heap} {b:Nat} {a v:AV} (hb:base≤b) (hg:H[b]?=some (.rows 2 1 [[a,v]])) (ha:a=.nilp∨a=.ptr b 1 2 0 0) (K:AV→Heap→Prop) :
 CallW Tryz.prog C base (.fn 394 []) [.ptr b 1 2 0 0] H K=K (.tup []) (H.set b (.rows 2 1 [[.ptr b 1 2 0 0,v]])):=by
 have e:pCopy base [.ptr b 1 2 0 0] H=some (.tup [],H.set b (.rows 2 1 [[.ptr b 1 2 0 0,v]])):=by
  unfold pCopy
  rcases ha with rfl | rfl<;>simp only [hg,if_pos hb,if_true]
 exact prim_call hp h1 h2 e K
theorem str_call {C:Cfg} (hp:C.prim 325=some pStr) (h1:C.pure 325=false) (h2:C.frz 325=false) {base:Nat} {H:Heap} {b:Nat} {a v:AV} {l:List UInt8} (hb:base≤b) (hg:H[b]?=some (.rows 2 1 [[a,v]])) (hn:l≠[]) (hl:l.length≤2^60)
 (hv:∃b' g',v=.sl b' g' 1 0 l.length∧base≤b'∧g' % 4=2∧H[b']?=some (.rows 1 g' (l.map bR))):∃H',∀K:AV→Heap→Prop,
 CallW Tryz.prog C base (.fn 325 []) [.ptr b 1 2 0 0] H K=K (.str l) H':=by
 obtain ⟨b',g',rfl,hb',hg4,hg2⟩:=hv
 have e:pStr base [.ptr b 1 2 0 0] H=some (.str l,H.set b' .dead):=by
  unfold pStr
  simp only [hg,hg2,byteU_map]
  rw [if_pos ⟨hb',hg4,trivial,trivial,by simpa using hn,hl⟩]
 exact ⟨_,fun K=>prim_call hp h1 h2 e K⟩
end Go.Proofs.Ev
