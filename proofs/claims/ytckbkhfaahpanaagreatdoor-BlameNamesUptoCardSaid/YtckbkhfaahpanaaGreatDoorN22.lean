/- Part 22 of the proof that quiltlaw38.BlameNames returns true: no statement of its own. -/
import Derived.Test.YtckbkhfaahpanaaGreatDoorN21
set_option linter.all false
namespace Go.Proofs.Ev
open Go.Proofs
variable {N:Low} {φ φ':Phi} {H:Heap} {w w':World} {n n':Nat}
theorem closeds_mem:∀{l:List AV},AV.closeds l=true→∀{j:Nat} {v:AV},l[j]?=some v→v.closed=true
 | [],_,_,_,h=>by simp at h
 | a::l,hc,j,v,h=>by
  rw [AV.closeds,Bool.and_eq_true] at hc
  cases j with
  | zero=>simp at h;subst h;exact hc.1
  | succ j=>exact closeds_mem hc.2 (by simpa using h)
theorem closedss_mem:∀{l:List (List AV)},AV.closedss l=true→∀{i:Nat} {r:List AV},l[i]?=some r→AV.closeds r=true
 | [],_,_,_,h=>by simp at h
 | a::l,hc,i,r,h=>by
  rw [AV.closedss,Bool.and_eq_true] at hc
  cases i with
  | zero=>simp at h;subst h;exact hc.1
  | succ i=>exact closedss_mem hc.2 (by simpa using h)
theorem RV.move {v:AV} {V:Value} (hn:∀cb,NotLive φ cb→NotLive φ' cb) (h:RV φ n w v V) (hc:v.closed=true):RV φ' n' w v V:=by
 induction h with
 | undef V=>cases hc
 | bool b=>exact .bool b
 | int k i=>exact .int k i
 | str l=>exact .str l
 | nilp=>exact .nilp
 | ptr _ _=>cases hc
 | eptr Vs hs hcc _ ih=>exact .eptr Vs hs (fun j v hj=>⟨(hcc j v hj).1,hn _ (hcc j v hj).2.1,(hcc j v hj).2.2⟩) fun j v hj=>ih j v hj (closeds_mem hc hj)
 | lst Vs esz hlen hcap he hbb _ ih =>
  refine .lst Vs esz hlen hcap he (fun hne=>?_) fun i row hi j v hj=>ih i row hi j v hj (closeds_mem (closedss_mem hc hi) hj)
  obtain ⟨cb,off,h1,h2⟩:=hbb hne
  exact ⟨cb,off,h1,fun i row hi=>⟨(h2 i row hi).1,fun j v hj=>⟨((h2 i row hi).2 j v hj).1,hn _ ((h2 i row hi).2 j v hj).2.1,((h2 i row hi).2 j v hj).2.2⟩⟩⟩
 | sl _ _ _=>cases hc
 | asl _ _ _=>cases hc
 | nilm=>exact .nilm
 | nils=>exact .nils
 | map _ _=>cases hc
 | nilf=>exact .nilf
 | fn hl _ ih=>exact .fn hl fun j v V hj hV=>ih j v V hj hV (closeds_mem hc hj)
 | yld _ _=>cases hc
 | agg hl hf _ ih=>exact .agg hl hf fun j v V hj hV=>ih j v V hj hV (closeds_mem hc hj)
 | tup hl _ ih=>exact .tup hl fun j v V hj hV=>ih j v V hj hV (closeds_mem hc hj)
def holdAll (φ:Phi):Phi:=⟨fun _=>none,fun cb=>φ.res cb∨∃b L,φ b=some L∧L.cb=cb⟩
theorem holdAll_live {cb:Nat}:NotLive (holdAll φ) cb↔NotLive φ cb:=by
 constructor
 ·rintro ⟨_,h⟩
  exact ⟨fun b L hL e=>h (.inr ⟨b,L,hL,e⟩),fun hr=>h (.inl hr)⟩
 ·rintro ⟨h1,h2⟩
  refine ⟨fun b L hL=>by simp [holdAll] at hL,?_⟩
  rintro (h | ⟨b,L,hL,e⟩)
  ·exact h2 h
  ·exact h1 b L hL e
theorem HR.hide (h:HR N φ H w):HR N (holdAll φ) [] w:={
 low:=h.low
 kept:=fun cb c T fr hc=>⟨(h.kept cb c T fr hc).1,holdAll_live.2 (h.kept cb c T fr hc).2⟩
 dead b _:=rfl
 base b L hL:=by simp [holdAll] at hL
 inj b b' L L' hL:=by simp [holdAll] at hL
 resn b L hL:=by simp [holdAll] at hL
 ress cb hr:=by
  rcases hr with hr | ⟨b,L,hL,rfl⟩
  ·exact h.ress cb hr
  ·exact (h.base b L hL).2
 rows b esz g rs hb:=by simp at hb
 map b es hb:=by simp at hb
 loop b r p s ps a c hb:=by simp at hb
 it b m k st hb:=by simp at hb }
theorem closed_run {P:Program} {C:Cfg} (hS:C.Sound P N) {n:Nat} {f:FuncId} {av:List AV} {v:AV} (hf:((funcA P C n 0 f av []).bind fun r=>freezeA r.2 0 6 r.1)=some v) (ha:AV.closeds av=true) (hv:v.closed=true) (hH:HR N φ H w) {Vs:Array Value} (hargs:Two (fun v V=>RV φ H.length w v V) av Vs.toList) :
 CallsIn (Fw none) 0 P f Vs w fun e w'=>∃V,e=.returned V∧RV φ H.length w' v V∧HR N φ H w'∧Ext φ H.length w φ H.length w':=by
 cases hf1:funcA P C n 0 f av [] with
 | none=>rw [hf1] at hf;cases hf
 | some r =>
  obtain ⟨v1,H1⟩:=r
  rw [hf1] at hf
  simp only [Option.bind_some] at hf
  obtain ⟨_,hc⟩:=(all_ok hS n).2.2.2.2.1 0 f av [] _ _ hf1
  have hall0:Two (fun v V=>RV (holdAll φ) 0 w v V) av Vs.toList:=by
   have h1:=hargs.get
   refine Two.of_get h1.1 fun i x y hx hy=>?_
   obtain ⟨V,h2,h3⟩:=h1.2 i x hx
   rw [h2] at hy;cases hy
   exact h3.move (fun cb=>holdAll_live.2) (closeds_mem ha hx)
  refine (hc (Nat.le_refl _) hH.hide hall0).mono ?_
  rintro e w' ⟨V,φ',rfl,hrv,h1,hx,hlow⟩
  have hres:∀cb,φ'.res cb↔(holdAll φ).res cb:=fun cb=>by rw [hx.res]
  have pres:∀(cb:Nat) (o:Obj),w.heap[cb]?=some o→w'.heap[cb]?=some o:=by
   intro cb o ho
   by_cases hr:(holdAll φ).res cb
   ·exact hx.keep cb o hr ho
   ·exact hx.same cb o ho ⟨fun b L hL=>by simp [holdAll] at hL,hr⟩
  refine ⟨V,rfl,?_,hH.keeps hx.size pres hx.env,Ext.keeps hx.size pres hx.env⟩
  refine (freeze_sound h1 6 hf hrv).move (fun cb hn=>?_) hv
  refine holdAll_live.1 ⟨fun b L hL=>by simp [holdAll] at hL,fun hr=>hn.2 ?_⟩
  exact (hres cb).2 hr
structure Row where
 f:FuncId
 a:List AV
 v:AV
def RowOK (N:Low) (r:Row):Prop:=(∃fn:Func,Tryz.prog.funcs[r.f]?=some fn∧fn.body.isSome=true)∧∀φ H w (Vs:Array Value),HR N φ H w→Two (fun v V=>RV φ H.length w v V) r.a Vs.toList→
 CallsIn (Fw none) 0 Tryz.prog r.f Vs w fun e w'=>∃V φ',e=.returned V∧RV φ' H.length w' r.v V∧HR N φ' H w'∧Ext φ H.length w φ' H.length w'
def tabP (T:List Row) (f:FuncId) (_:Nat) (args:List AV) (H:Heap):Option (AV×Heap) :=
 match T.find? fun r=>r.f==f&&AV.beqs r.a args with
 | some r=>some (r.v,H)
 | none=>none
theorem tab_ok {T:List Row} (hT:∀r∈T,RowOK N r) {f:FuncId} (hf:T.any (fun r=>r.f==f)=true):PrimOK Tryz.prog N f (tabP T f):=by
 obtain ⟨r0,h0,h1⟩:=List.any_eq_true.1 hf
 have h1:r0.f=f:=by simpa using h1
 refine ⟨h1▸(hT r0 h0).1,fun base args H v H' h φ w Vs hb hH ht=>?_⟩
 unfold tabP at h
 split at h
 ·rename_i r hr
  cases h
  have hm:=List.mem_of_find?_eq_some hr
  have hp:=List.find?_some hr
  simp only [Bool.and_eq_true,beq_iff_eq] at hp
  obtain ⟨rfl,hb2⟩:=hp
  have:=beqs_eq _ _ hb2
  subst this
  refine ((hT r hm).2 φ H w Vs hH ht).mono ?_
  rintro e w' ⟨V,φ',h1,h2,h3,h4⟩
  exact ⟨V,φ',h1,h2,h3,h4,fun _ _=>rfl⟩
 ·cases h
theorem row_ret {C:Cfg} (hS:C.Sound Tryz.prog N) {f:FuncId} {a:List AV} {v:AV} (hp:C.pure f=true) (hr:Ret Tryz.prog C f [] a v) (hb:∃fn:Func,Tryz.prog.funcs[f]?=some fn∧fn.body.isSome=true):RowOK N ⟨f,a,v⟩:=by
 refine ⟨hb,fun φ H w Vs hH ht=>?_⟩
 obtain ⟨n,h⟩:=hr 0 H
 cases n with
 | zero=>simp [callA] at h
 | succ n =>
  simp only [callA,hp,if_true,List.append_nil] at h
  cases hf:funcA Tryz.prog C n H.length f a H with
  | none=>rw [hf] at h;cases h
  | some vh =>
   obtain ⟨v1,H1⟩:=vh
   rw [hf] at h
   simp only at h
   cases hfr:freezeA H1 H.length 3 v1 with
   | none=>rw [hfr] at h;cases h
   | some v2 =>
    rw [hfr] at h;cases h
    obtain ⟨_,hc⟩:=(all_ok hS n).2.2.2.2.1 H.length f a H v1 H1 hf
    refine (hc (Nat.le_refl _) hH ht).mono ?_
    rintro e w' ⟨V,φ',rfl,hv,h1,hx,hlow⟩
    exact ⟨V,cutLoc φ' H.length,rfl,freeze_sound h1 3 hfr hv,hH.cut h1 hlow,hx.cut⟩
theorem row_run {C:Cfg} (hS:C.Sound Tryz.prog N) {n:Nat} {f:FuncId} {a:List AV} {v:AV} (hf:((funcA Tryz.prog C n 0 f a []).bind fun r=>freezeA r.2 0 6 r.1)=some v) (ha:AV.closeds a=true) (hv:v.closed=true) (hb:∃fn:Func,Tryz.prog.funcs[f]?=some fn∧fn.body.isSome=true):RowOK N ⟨f,a,v⟩ :=
 ⟨hb,fun φ H w Vs hH ht=>(closed_run hS hf ha hv hH ht).mono fun e w' ⟨V,h1,h2,h3,h4⟩=>⟨V,φ,h1,h2,h3,h4⟩⟩
end Go.Proofs.Ev
namespace Go.Proofs.Ev
open Go.Proofs Go.Sort
def chA:ChV:={ zeroCh with kind:=1,type:=1 }
def chB:ChV:={ zeroCh with kind:=2,parent:=rootId,name:=[102] }
def chC:ChV:={ zeroCh with kind:=5,lines:=[[120],[121]],linesK:=.exact }
def p1:PatchV:=⟨[97,110,110],[],0,[],.nil,[chA,chB,chC],.exact⟩
def d1:DigV:=⟨[226,249,67,36,224,136,119,52,116,112,63,225,173,69,214,183,113,16,111,186,229,28,180,40,14,159,111,192,115,126,3,9],by decide,by decide⟩
def idA (d:DigV) (n:Int):IdV:=⟨d.d,n,d.h,d.b⟩
def p2:PatchV:=⟨[98,111,98],[],0,[],.nil,[{ zeroCh with kind:=7,over:=[idA d1 2],overK:=.exact }],.exact⟩
def d2:DigV:=⟨[180,232,99,19,238,250,85,112,0,7,167,54,126,144,140,62,33,237,98,193,158,36,208,198,45,253,132,232,210,167,111,29],by decide,by decide⟩
theorem p1_good:p1.Good:={
 fit:=(fit_of ⟨by simp [p1],by simp [p1],by simp [p1],by simp [p1],by
  intro c hc
  simp only [p1,List.mem_cons,List.not_mem_nil,or_false] at hc
  rcases hc with rfl | rfl | rfl<;>exact ⟨by decide,by decide,by decide,by decide,by decide⟩⟩ (by kernel_rfl)).1
 ok:=by kernel_rfl
 n:=by have:(checkL p1).length=7:=by kernel_rfl
       omega }
theorem p2_good:p2.Good:={
 fit:=(fit_of ⟨by simp [p2],by simp [p2],by simp [p2],by simp [p2],by
  intro c hc
  simp only [p2,List.mem_cons,List.not_mem_nil,or_false] at hc
  subst hc
  exact ⟨by decide,by decide,by decide,by decide,by decide⟩⟩ (by kernel_rfl)).1
 ok:=by kernel_rfl
 n:=by have:(checkL p2).length=1:=by kernel_rfl
       omega }
theorem p1_dig:p1.dig=d1:=DigV.ext' (by kernel_rfl)
theorem p2_dig:p2.dig=d2:=DigV.ext' (by kernel_rfl)
theorem sortL_short {α:Type} [Inhabited α] {cf:α→α→Int} (hO:SWO (ltOf cf)) {l:List α} (h:l.length≤1):sortL cf l=l:=by
 have hp:=sortL_perm hO l
 match l,h with
 | [],_=>exact hp.eq_nil
 | [x],_=>exact List.perm_singleton.1 hp
 | _::_::_,h=>simp at h
def sig0:Sorts:=⟨id,id⟩
theorem atoms0 {p:PatchV} (h:∀x∈checkL p,x.over.length≤1):atomsP sigT p=(checkL p).map (atP sig0 p.dig):=by
 refine List.map_congr_left fun x hx=>?_
 unfold atP
 have:=sortL_short swo_id (l:=x.over.map fun z=>wholeV z p.dig) (by rw [List.length_map];exact h x hx)
 show ({ at4 p.dig (at3 p.dig (at2 p.dig (atI p.dig x))) with over:=sortL cmpI (x.over.map fun z=>wholeV z p.dig),overK:=nlK x.over }:AtV)=_
 rw [this];rfl
theorem over1 {l:List AtV} (h:(l.all fun x=>decide (x.over.length≤1))=true):∀x∈l,x.over.length≤1:=fun x hx=>by simpa using List.all_eq_true.1 h x hx
variable {N:Low}
theorem prim0_ok:PrimOK Tryz.prog N 6 (fun _ _ _=>none):=⟨⟨_,Tryz.func6,rfl⟩,fun _ _ _ _ _ h=>by cases h⟩
def atV (p:PatchV) (d:DigV):AV:=.tup [.lst (((checkL p).map (atP sig0 d)).map AtV.cells) false,.int .i64 0]
def rows0:List Row:=[⟨40,[.agg p1.cells],.tup [.agg d1.cells,.int .i64 0]⟩,⟨40,[.agg p2.cells],.tup [.agg d2.cells,.int .i64 0]⟩,
 ⟨26,[.agg p1.cells],atV p1 d1⟩,⟨26,[.agg p2.cells],atV p2 d2⟩,
 ⟨78,[.agg p1.cells],.lst [] true⟩,⟨78,[.agg p2.cells],.lst [d1.cells] false⟩]
theorem needs1:needsP sigT p1=[]:=by
 have h:needL p1=[]:=by rfl
 have:sortL (fun a b:DigV=>cmpD a.d b.d) []=[]:=sortL_short swo_dig (by simp)
 unfold needsP sigT
 rw [h]
 simp only
 rw [this];rfl
theorem needs2:needL p2=[d1]:=by rfl
theorem rows0_ok (hT:TagOK Tryz.prog N) (hG:TagHere N) (hL:LowTab N):∀r∈rows0,RowOK N r:=by
 have hS:=soundT hT hG hL (prim0_ok (N:=N))
 have hQ:SettingQ (cfgT fun _ _ _=>none) sigT:=isSettingQ
 have hR:SettingR (cfgT fun _ _ _=>none) sigT:=isSettingR
 intro r hr
 simp only [rows0,List.mem_cons,List.not_mem_nil,or_false] at hr
 rcases hr with rfl | rfl | rfl | rfl | rfl | rfl
 ·have:=ret_IdP isSettingP p1 p1_good (C:=cfgT fun _ _ _=>none)
  rw [p1_dig] at this
  exact row_ret hS (by kernel_rfl) this ⟨_,Tryz.func40,rfl⟩
 ·have:=ret_IdP isSettingP p2 p2_good (C:=cfgT fun _ _ _=>none)
  rw [p2_dig] at this
  exact row_ret hS (by kernel_rfl) this ⟨_,Tryz.func40,rfl⟩
 ·have:=ret_Atoms hQ p1 p1_good
  rw [atoms0 (over1 (by kernel_rfl)),p1_dig] at this
  exact row_ret hS (by kernel_rfl) this ⟨_,Tryz.func26,rfl⟩
 ·have:=ret_Atoms hQ p2 p2_good
  rw [atoms0 (over1 (by kernel_rfl)),p2_dig] at this
  exact row_ret hS (by kernel_rfl) this ⟨_,Tryz.func26,rfl⟩
 ·have:=ret_Needs hR p1 p1_good
  rw [needs1] at this
  exact row_ret hS (by kernel_rfl) this ⟨_,Tryz.func78,rfl⟩
 ·have:=ret_Needs hR p2 p2_good
  have hn:needsP sigT p2=[d1]:=by
   unfold needsP sigT
   rw [needs2]
   simp only
   rw [sortL_short swo_dig (by simp)];rfl
  rw [hn,needs2] at this
  exact row_ret hS (by kernel_rfl) this ⟨_,Tryz.func78,rfl⟩
end Go.Proofs.Ev
namespace Go.Proofs.Ev
open Go.Proofs
variable {N:Low}
def k32:List LK:=List.replicate 32 (.int .u8)
def kindsA (t:TypeId):Option (List LK) :=
 if t=25 then some k32 else if t=27 then some (k32++[.int .i64]) else
 if t=40 then some (.int .i64::(k32++(k32++[.int .i64]))) else if t=70 then some (k32++[.int .i64,.str,.int .i64]) else
 if t=183 then some [.int .i64,.int .i64] else if t=240 then some (k32++[.int .i64,.str]) else none
def pureA:List FuncId:=[299,286,234,233,232,222,221,208,205,204,202,159,156,154,153,152,150,148,145,144,140,129,128,103,98,97,95,92,91,89,85,78,77,76,74,62,61,57,56,54,53,51,49,48,43,41,40,27,26,25,22,21,20,19,18,17,16,15,8,7]
def primA (T:List Row) (f:FuncId):Option (Nat→List AV→Heap→Option (AV×Heap)) :=
 if f=128 then some pCmp else if f=46 then some pIns else if T.any (fun r=>r.f==f) then some (tabP T f) else none
def cfgR (T:List Row):Cfg:=⟨primA T,fun f=>pureA.contains f,fun _=>false,kindsA⟩
theorem kindsA_ok:∀t ks,kindsA t=some ks→flatKinds Tryz.prog 20 t=some ks∧Tryz.prog.eqGuardType Tryz.prog.depth t=false∧isAggT Tryz.prog t=some true:=by
 intro t ks h
 unfold kindsA at h
 split at h
 ·rename_i ht;subst ht;cases h;exact ⟨by kernel_rfl,by kernel_rfl,by kernel_rfl⟩
 split at h
 ·rename_i ht;subst ht;cases h;exact ⟨by kernel_rfl,by kernel_rfl,by kernel_rfl⟩
 split at h
 ·rename_i ht;subst ht;cases h;exact ⟨by kernel_rfl,by kernel_rfl,by kernel_rfl⟩
 split at h
 ·rename_i ht;subst ht;cases h;exact ⟨by kernel_rfl,by kernel_rfl,by kernel_rfl⟩
 split at h
 ·rename_i ht;subst ht;cases h;exact ⟨by kernel_rfl,by kernel_rfl,by kernel_rfl⟩
 split at h
 ·rename_i ht;subst ht;cases h;exact ⟨by kernel_rfl,by kernel_rfl,by kernel_rfl⟩
 cases h
theorem soundR (hT:TagOK Tryz.prog N) {T:List Row} (hr:∀r∈T,RowOK N r):(cfgR T).Sound Tryz.prog N:={
 fits:=⟨kindsA_ok⟩
 mixed:=by kernel_rfl
 tag:=hT
 names:=names_ok
 prim f q h:=by
  change primA T f=some q at h
  unfold primA at h
  split at h
  ·rename_i hf;subst hf;cases h;exact cmp_ok N
  split at h
  ·rename_i hf;subst hf;cases h;exact ins_ok hT
  split at h
  ·rename_i hf;cases h;exact tab_ok hr hf
  cases h }
theorem itoa_row (hL:LowTab N):RowOK N ⟨145,[.int .i64 0],.str [48]⟩:=by
 refine ⟨⟨_,Tryz.func145,rfl⟩,fun φ H w Vs hH ht=>?_⟩
 have h:pItoa 0 [.int .i64 0] H=some (.str [48],H):=by
  show (if (-9223372036854775808:Int)≤0∧(0:Int)≤9223372036854775807 then some (AV.str (decI 0),H) else none)=_
  rw [if_pos ⟨by decide,by decide⟩]
  have:decI 0=[48]:=by simp [decI,decN]
  rw [this]
 refine ((itoa_ok hL).2 0 _ H _ _ h φ w Vs (Nat.zero_le _) hH ht).mono ?_
 rintro e w' ⟨V,φ',h1,h2,h3,h4,_⟩
 exact ⟨V,φ',h1,h2,h3,h4⟩
def rowsI:List Row:=⟨145,[.int .i64 0],.str [48]⟩::rows0
theorem rowsI_ok (hT:TagOK Tryz.prog N) (hG:TagHere N) (hL:LowTab N):∀r∈rowsI,RowOK N r:=by
 intro r hr
 rcases List.mem_cons.1 hr with rfl | hr
 ·exact itoa_row hL
 ·exact rows0_ok hT hG hL r hr
theorem row_fast {T:List Row} (hT:TagOK Tryz.prog N) (hr:∀r∈T,RowOK N r) {n:Nat} {f:FuncId} {a:List AV} {v:AV} (hf:((Rsp.v (evK Tryz.prog (cfgR T) n (.func 0 f a []))).bind fun r=>freezeA r.2 0 6 r.1)=some v) (ha:AV.closeds a=true) (hv:v.closed=true) (hb:∃fn:Func,Tryz.prog.funcs[f]?=some fn∧fn.body.isSome=true):RowOK N ⟨f,a,v⟩ :=
 row_run (soundR hT hr) (by rw [evK_func] at hf;exact hf) ha hv hb
end Go.Proofs.Ev
namespace Go.Proofs.Ev
open Go.Proofs
variable {N:Low}
def st1:List AV:=d1.cells++p1.cells
def st2:List AV:=d2.cells++p2.cells
def set1:AV:=.lst [st1] false
def set2:AV:=.lst [st2,st1] false
set_option maxRecDepth 100000 in
theorem run_add1:((Rsp.v (evK Tryz.prog (cfgR rowsI) 3000 (.func 0 15 [.nils,.agg p1.cells] []))).bind fun r=>freezeA r.2 0 6 r.1)=some (.tup [set1,.agg d1.cells,.int .i64 0]):=by kernel_rfl
set_option maxRecDepth 100000 in
theorem run_add2:((Rsp.v (evK Tryz.prog (cfgR rowsI) 3000 (.func 0 15 [set1,.agg p2.cells] []))).bind fun r=>freezeA r.2 0 6 r.1)=some (.tup [set2,.agg d2.cells,.int .i64 0]):=by kernel_rfl
end Go.Proofs.Ev
namespace Go.Proofs.Ev
open Go.Proofs
set_option maxRecDepth 100000 in
theorem run_events:((Rsp.v (evK Tryz.prog (cfgR rowsI) 3000 (.func 0 7 [set2,.agg (idA d1 2).cells] []))).bind fun r=>freezeA r.2 0 6 r.1)=some (.tup [.lst [.int .i64 1::(d1.cells++(idA d1 2).cells),.int .i64 2::(d2.cells++(idA d2 0).cells)] false,.int .i64 0]):=by kernel_rfl
set_option maxRecDepth 100000 in
theorem run_touch:((Rsp.v (evK Tryz.prog (cfgR rowsI) 3000 (.func 0 18 [set2,.agg (idA d1 0).cells] []))).bind fun r=>freezeA r.2 0 6 r.1)=some (.tup [.lst [d1.cells,d2.cells] false,.int .i64 0]):=by kernel_rfl
end Go.Proofs.Ev
namespace Go.Proofs.Ev
open Go.Proofs
set_option maxRecDepth 100000 in
theorem run_paths:((Rsp.v (evK Tryz.prog (cfgR rowsI) 3000 (.func 0 48 [set2] []))).bind fun r=>freezeA r.2 0 6 r.1)=some (.lst [.str [102]::(idA d1 0).cells] false):=by kernel_rfl
end Go.Proofs.Ev
namespace Go.Proofs.Ev
open Go.Proofs
def grA:AV:=.agg [.lst [(idA d1 2).cells++[.str [120],.bool false],(idA d1 3).cells++[.str [121],.bool true]] false,.lst [[.int .i64 (-1),.int .i64 0],[.int .i64 0,.int .i64 1],[.int .i64 1,.int .i64 (-1)]] false]
set_option maxRecDepth 100000 in
theorem run_of:((Rsp.v (evK Tryz.prog (cfgR rowsI) 3000 (.func 0 49 [set2,.agg (idA d1 0).cells] []))).bind fun r=>freezeA r.2 0 6 r.1)=some (.tup [grA,.int .i64 0]):=by kernel_rfl
end Go.Proofs.Ev
namespace Go.Proofs.Ev
open Go.Proofs
set_option maxRecDepth 100000 in
theorem run_regions:((Rsp.v (evK Tryz.prog (cfgR rowsI) 3000 (.func 0 51 [grA] []))).bind fun r=>freezeA r.2 0 6 r.1)=some (.lst [[.bool false,.lst [[.int .i64 1]] false,.nils]] false):=by kernel_rfl
end Go.Proofs.Ev
namespace Go.Proofs.Ev
open Go.Proofs
variable {C:Cfg} {σ:Sorts}
theorem backD_eq (S:SettingT C σ) (v:AV) (hv:v.leaf=true) (hc:v.cells=[v]) {base:Nat} {H:Heap} (K:AV→Heap→Prop) :
 CallW Tryz.prog C base (.fn 109 []) [v] H K=K (.fn 166 [.ptr H.length 0 1 0 0]) (H++[.rows 1 0 [[v]]]):=by
 refine CallW.eq (call_rule (S.plainT _ (by decide)).1 (S.plainT _ (by decide)).2 (func_rule Tryz.func109 rfl (S.prim _ (by decide)) (by simp) (by kernel_rfl) ?_)) K
 unfold Tryz.f109
 simp [argS,hv,hc]
theorem backA_eq (S:SettingT C σ) (v:AV) (hv:v.leaf=true) (hc:v.cells=[v]) {base:Nat} {H:Heap} (K:AV→Heap→Prop) :
 CallW Tryz.prog C base (.fn 110 []) [v] H K=K (.fn 167 [.ptr H.length 0 1 0 0]) (H++[.rows 1 0 [[v]]]):=by
 refine CallW.eq (call_rule (S.plainT _ (by decide)).1 (S.plainT _ (by decide)).2 (func_rule Tryz.func110 rfl (S.prim _ (by decide)) (by simp) (by kernel_rfl) ?_)) K
 unfold Tryz.f110
 simp [argS,hv,hc]
theorem back_walkD (S:SettingT C σ) {l:List DigV} {k:SK} {base bl bs:Nat} (hl:l.length≤2^40) {I:Nat→Heap→Prop} (hb:∀j X,I j X→blkRow X bs 0 1 0=some [slAV k (l.map DigV.cells)])
 (hy:∀(j m:Nat) X d,I j X→m+j+1=l.length→l[m]?=some d→CallW Tryz.prog C base (.yld bl) [.int .i64 (m:Int),.agg d.cells] X fun v X'=>v=.bool true∧I (j+1) X') {X0:Heap} (h0:I 0 X0) (K:AV→Heap→Prop) (hK:∀X,I l.length X→K (.tup []) X) :
 FuncW Tryz.prog C base 166 [.yld bl,.ptr bs 0 1 0 0] X0 K:=by
 refine func_rule Tryz.func166 rfl (S.prim _ (by decide)) (by simp) (by kernel_rfl) ?_
 unfold Tryz.f166
 have hb0:=hb 0 X0 h0
 have w0:IntKind.i64.wrap ((l.length:Int)-1)=(l.length:Int)-1:=wrap_in (by omega) (by omega)
 simp [argS,hb0,w0]
 refine loop_count l.length (fun j s X=>s 0=.yld bl∧s 1=.ptr bs 0 1 0 0∧s 3=.int .i64 ((l.length:Int)-1-j)∧I j X) ?_ ?_
 ·exact ⟨rfl,rfl,by simp,h0⟩
 rintro j s X ⟨q0,q1,q3,hI⟩ hj
 by_cases h:j<l.length
 ·obtain ⟨m,hm⟩:∃m,m+j+1=l.length:=⟨l.length-1-j,by omega⟩
  have hmi:(l.length:Int)-1-j=(m:Int):=by omega
  rw [hmi] at q3
  have hml:m<l.length:=by omega
  obtain ⟨X',hI',ey⟩:=CallW.ex (hy j m X l[m] hI hm (List.getElem?_eq_getElem hml))
  have w1:IntKind.i64.wrap ((m:Int)-1)=(l.length:Int)-1-((j:Int)+1):=by rw [wrap_in (by omega) (by omega)];omega
  simp [q0,q1,q3,hb j X hI,hml,ey,w1]
  exact ⟨h,hI'⟩
 ·have h':j=l.length:=by omega
  have hneg:(l.length:Int)-1-j = -1:=by omega
  rw [hneg] at q3
  rw [h'] at hI
  simp [q0,q1,q3]
  exact hK X hI
theorem back_walkA (S:SettingT C σ) {l:List AtV} {k:SK} {base bl bs:Nat} (hl:l.length≤2^40) {I:Nat→Heap→Prop} (hb:∀j X,I j X→blkRow X bs 0 1 0=some [slAV k (l.map AtV.cells)])
 (hy:∀(j m:Nat) X d,I j X→m+j+1=l.length→l[m]?=some d→CallW Tryz.prog C base (.yld bl) [.int .i64 (m:Int),.agg d.cells] X fun v X'=>v=.bool true∧I (j+1) X') {X0:Heap} (h0:I 0 X0) (K:AV→Heap→Prop) (hK:∀X,I l.length X→K (.tup []) X) :
 FuncW Tryz.prog C base 167 [.yld bl,.ptr bs 0 1 0 0] X0 K:=by
 refine func_rule Tryz.func167 rfl (S.prim _ (by decide)) (by simp) (by kernel_rfl) ?_
 unfold Tryz.f167
 have hb0:=hb 0 X0 h0
 have w0:IntKind.i64.wrap ((l.length:Int)-1)=(l.length:Int)-1:=wrap_in (by omega) (by omega)
 simp [argS,hb0,w0]
 refine loop_count l.length (fun j s X=>s 0=.yld bl∧s 1=.ptr bs 0 1 0 0∧s 3=.int .i64 ((l.length:Int)-1-j)∧I j X) ?_ ?_
 ·exact ⟨rfl,rfl,by simp,h0⟩
 rintro j s X ⟨q0,q1,q3,hI⟩ hj
 by_cases h:j<l.length
 ·obtain ⟨m,hm⟩:∃m,m+j+1=l.length:=⟨l.length-1-j,by omega⟩
  have hmi:(l.length:Int)-1-j=(m:Int):=by omega
  rw [hmi] at q3
  have hml:m<l.length:=by omega
  obtain ⟨X',hI',ey⟩:=CallW.ex (hy j m X l[m] hI hm (List.getElem?_eq_getElem hml))
  have w1:IntKind.i64.wrap ((m:Int)-1)=(l.length:Int)-1-((j:Int)+1):=by rw [wrap_in (by omega) (by omega)];omega
  simp [q0,q1,q3,hb j X hI,hml,ey,w1]
  exact ⟨h,hI'⟩
 ·have h':j=l.length:=by omega
  have hneg:(l.length:Int)-1-j = -1:=by omega
  rw [hneg] at q3
  rw [h'] at hI
  simp [q0,q1,q3]
  exact hK X hI
structure Lates (C:Cfg) (base bl bs start N:Nat) (s:List StoredV) (k:SK) (I:List AtV→Heap→Prop):Prop where
 app:∀{l:List AtV} {X:Heap} (L:Heap),I l X→I l (X++L)
 set:∀{l:List AtV} {X:Heap} {b:Nat} {blk:Blk} (x:Blk),I l X→start≤b→X[b]?=some blk→(∀g rs,blk≠.rows 33 g rs)→I l (X.set b x)
 low:∀{l:List AtV} {X:Heap},I l X→base≤start∧start≤X.length
 src:∀{l:List AtV} {X:Heap},I l X→blkRow X bs 0 1 0=some [slAV k (s.map StoredV.cells)]
 yld:∀{l:List AtV} {X:Heap} (y:AtV),I l X→l.length≤N→y.over.length≤2^10→∃X',I (l++[y]) X'∧(∀b blk,start≤b→X[b]?=some blk→(∀g rs,blk≠.rows 33 g rs)→X'[b]?=some blk)∧
  ∀K:AV→Heap→Prop,CallW Tryz.prog C base (.yld bl) [.agg y.cells] X K=K (.bool true) X'
def latA (σ:Sorts) (s:List StoredV) (L:List DigV) (j:Nat):List AtV:=((L.reverse.take j).map fun d=>(atomsP σ (getP s d.d)).reverse).flatten
theorem latA_succ {s:List StoredV} {L:List DigV} {j m:Nat} {d:DigV} (hm:m+j+1=L.length) (hd:L[m]?=some d):latA σ s L (j+1)=latA σ s L j++(atomsP σ (getP s d.d)).reverse:=by
 have h:L.reverse[j]?=some d:=by rw [List.getElem?_reverse (by omega),show L.length-1-j=m by omega];exact hd
 unfold latA
 rw [List.take_add_one,h];simp
theorem ordP_mem:∀(s:List StoredV) (n:Nat) (out:List DigV) (d:DigV),d∈ordP σ s n out→d∈out∨∃x∈s,x.id=d
 | s,0,out,d,h=>.inl h
 | s,n+1,out,d,h=>by
  rw [ordP] at h
  cases hf:s.find? (okP σ out) with
  | none=>rw [hf] at h;exact .inl h
  | some x =>
   rw [hf] at h
   rcases ordP_mem s n _ d h with h | h
   ·rcases List.mem_append.1 h with h | h
    ·exact .inl h
    ·exact .inr ⟨x,List.mem_of_find?_eq_some hf,(List.mem_singleton.1 h).symm⟩
   ·exact .inr h
theorem ordP_len:∀(s:List StoredV) (n:Nat) (out:List DigV),(ordP σ s n out).length≤out.length+n
 | s,0,out=>by rw [ordP];omega
 | s,n+1,out=>by
  rw [ordP]
  cases hf:s.find? (okP σ out) with
  | none=>simp only;omega
  | some x=>simp only;have:=ordP_len s n (out++[x.id]);simp at this;omega
end Go.Proofs.Ev
namespace Go.Proofs.Ev
open Go.Proofs
variable {C:Cfg} {σ:Sorts}
theorem latest_eq (S:SettingT C σ) (v:AV) (hv:v.leaf=true) (hc:v.cells=[v]) {base:Nat} {H:Heap} (K:AV→Heap→Prop) :
 CallW Tryz.prog C base (.fn 60 []) [v] H K=K (.fn 108 [.ptr H.length 0 1 0 0]) (H++[.rows 1 0 [[v]]]):=by
 refine CallW.eq (call_rule (S.plainT _ (by decide)).1 (S.plainT _ (by decide)).2 (func_rule Tryz.func60 rfl (S.prim _ (by decide)) (by simp) (by kernel_rfl) ?_)) K
 unfold Tryz.f60
 simp [argS,hv,hc]
def LatJ (σ:Sorts) (s:List StoredV) (I:List AtV→Heap→Prop) (bl y0:Nat) (v0:AV) (LB:Blk) (L:List DigV) (j:Nat) (X:Heap):Prop :=
 I (latA σ s L j) X∧X[y0]?=some (.rows 1 0 [[.yld bl]])∧X[y0+1]?=some (.rows 1 0 [[v0]])∧X[y0+2]?=some LB
def LatK (I:List AtV→Heap→Prop) (bl y0:Nat) (v0:AV) (BB:Blk) (a0:Nat) (vA:AV) (LB2:Blk) (P A:List AtV) (j:Nat) (X:Heap):Prop :=
 I (P++A.reverse.take j) X∧X[y0]?=some (.rows 1 0 [[.yld bl]])∧X[y0+1]?=some (.rows 1 0 [[v0]])∧X[y0+2]?=some BB∧X[a0]?=some (.rows 1 0 [[vA]])∧X[a0+1]?=some LB2
theorem lat_outer (S:SettingT C σ) {s:List StoredV} {I:List AtV→Heap→Prop} {base bl bs start N:Nat} {k kL:SK} (Y:Lates C base bl bs start N s k I) {L:List DigV} (hL:L.length≤2^20) {X0:Heap} (h0:I [] X0)
 {l1:List AV} {ps:List Tmp} {asg bd:Code} {nb po:Nat} {X:Heap} (hX:X=X0++[.rows 1 0 [[.yld bl]],.rows 1 0 [[slAV kL (L.map DigV.cells)]]]) (hnb:nb=X0.length+2) (hpo:po=X0.length+1)
 (hy:∀(LB BB:Blk) (_:loopB l1 ps asg bd=LB) (_:busyB l1 ps asg bd=BB) (j m:Nat) (X:Heap) (d:DigV),LatJ σ s I bl X0.length (slAV kL (L.map DigV.cells)) LB L j X→m+j+1=L.length→L[m]?=some d→
  CallW Tryz.prog C base (.yld (X0.length+2)) [.int .i64 (m:Int),.agg d.cells] X fun v X'=>v=.bool true∧LatJ σ s I bl X0.length (slAV kL (L.map DigV.cells)) LB L (j+1) X')
 (K:AV→Heap→Prop) (hK:∀X,LatJ σ s I bl X0.length (slAV kL (L.map DigV.cells)) (loopB l1 ps asg bd) L L.length X→K (.tup []) X) :
 FuncW Tryz.prog C base 166 [.yld nb,.ptr po 0 1 0 0] (X++[loopB l1 ps asg bd]) K:=by
 subst hnb;subst hpo
 refine back_walkD S (l:=L) (k:=kL) (by omega) (I:=LatJ σ s I bl X0.length (slAV kL (L.map DigV.cells)) (loopB l1 ps asg bd) L) ?_ (hy _ _ rfl rfl) ?_ K hK
 ·rintro j X ⟨_,_,h,_⟩
  simp [blkRow,h]
 ·refine ⟨?_,?_,?_,?_⟩
  ·have:=Y.app [.rows 1 0 [[.yld bl]],.rows 1 0 [[slAV kL (L.map DigV.cells)]],loopB l1 ps asg bd] h0
   rw [hX];simpa [latA] using this
  ·rw [hX];simp
  ·rw [hX];simp
  ·rw [hX];simp
theorem lat_inner (S:SettingT C σ) {s:List StoredV} {I:List AtV→Heap→Prop} {base bl bs start N:Nat} {k kA:SK} (Y:Lates C base bl bs start N s k I) {P A:List AtV} (hA:A.length≤2^20) {W:Heap} {y0:Nat} {v0:AV} {BB:Blk} (h0:I P W) (g0:W[y0]?=some (.rows 1 0 [[.yld bl]])) (g1:W[y0+1]?=some (.rows 1 0 [[v0]])) (g2:W[y0+2]?=some BB)
 {l2:List AV} {ps:List Tmp} {asg bd:Code} {nb po:Nat} {X:Heap} {r1 r2:Blk} (hX:X=W++[r1,r2,.rows 1 0 [[slAV kA (A.map AtV.cells)]]]) (hnb:nb=W.length+3) (hpo:po=W.length+2)
 (hy:∀(LB2 BB2:Blk) (_:loopB l2 ps asg bd=LB2) (_:busyB l2 ps asg bd=BB2) (j m:Nat) (X:Heap) (x:AtV),LatK I bl y0 v0 BB (W.length+2) (slAV kA (A.map AtV.cells)) LB2 P A j X→m+j+1=A.length→A[m]?=some x→
  CallW Tryz.prog C base (.yld (W.length+3)) [.int .i64 (m:Int),.agg x.cells] X fun v X'=>v=.bool true∧LatK I bl y0 v0 BB (W.length+2) (slAV kA (A.map AtV.cells)) LB2 P A (j+1) X')
 (K:AV→Heap→Prop) (hK:∀X,LatK I bl y0 v0 BB (W.length+2) (slAV kA (A.map AtV.cells)) (loopB l2 ps asg bd) P A A.length X→K (.tup []) X) :
 FuncW Tryz.prog C base 167 [.yld nb,.ptr po 0 1 0 0] (X++[loopB l2 ps asg bd]) K:=by
 subst hnb;subst hpo
 have kp:∀{j:Nat} {blk:Blk} (M:Heap),W[j]?=some blk→(W++M)[j]?=some blk:=fun M h=>by rw [List.getElem?_append_left (List.getElem?_eq_some_iff.1 h).1];exact h
 refine back_walkA S (l:=A) (k:=kA) (by omega) (I:=LatK I bl y0 v0 BB (W.length+2) (slAV kA (A.map AtV.cells)) (loopB l2 ps asg bd) P A) ?_ (hy _ _ rfl rfl) ?_ K hK
 ·rintro j X ⟨_,_,_,_,h,_⟩
  simp [blkRow,h]
 ·refine ⟨?_,?_,?_,?_,?_,?_⟩
  ·have:=Y.app [r1,r2,.rows 1 0 [[slAV kA (A.map AtV.cells)]],loopB l2 ps asg bd] h0
   rw [hX];simpa using this
  ·rw [hX,List.append_assoc];exact kp _ g0
  ·rw [hX,List.append_assoc];exact kp _ g1
  ·rw [hX,List.append_assoc];exact kp _ g2
  ·rw [hX];simp
  ·rw [hX,show W.length+2+1=W.length+3 from rfl,List.append_assoc,app_get];rfl
theorem atomsP_over (hp:∀l,(σ.i l).Perm l) {p:PatchV} (h:p.Good):∀x∈atomsP σ p,x.over.length≤2^10:=by
 intro x hx
 obtain ⟨y,hy,rfl⟩:=List.mem_map.1 hx
 have h1:=h.fit.atomOver y hy
 have h2:(atP σ p.dig y).over=σ.i (y.over.map fun z=>wholeV z p.dig):=rfl
 rw [h2,(hp _).length_eq,List.length_map];exact h1
theorem latA_len {s:List StoredV} (hs:SetGood s) {L:List DigV} (hL:∀d∈L,hasS s d.d=true) (j:Nat):(latA σ s L j).length≤90000*L.length:=by
 have h:=flatten_len (f:=fun d:DigV=>(atomsP σ (getP s d.d)).reverse) (b:=90000) (l:=L.reverse.take j) fun d hd=>by
  rw [List.length_reverse]
  exact atomsP_len (getP_good hs (hL d (List.mem_reverse.1 (List.mem_of_mem_take hd)))).1
 have h2:(L.reverse.take j).length≤L.length:=by simp;omega
 have h3:90000*(L.reverse.take j).length≤90000*L.length:=Nat.mul_le_mul_left _ h2
 unfold latA
 omega
set_option maxRecDepth 100000 in
set_option maxHeartbeats 8000000 in
theorem latest_walk (S:SettingT C σ) {s0:List StoredV} {k:SK} (hs:SetGood s0) (h8:s0.length≤8) {base bl bs start:Nat} {I:List AtV→Heap→Prop} (Y:Lates C base bl bs start (2^20) s0 k I) {X0:Heap} (h0:I [] X0) (K:AV→Heap→Prop)
 (hK:∀X,I (latA σ s0 (ordP σ s0 s0.length []) (ordP σ s0 s0.length []).length) X→K (.tup []) X) :
 FuncW Tryz.prog C base 108 [.yld bl,.ptr bs 0 1 0 0] X0 K:=by
 refine func_rule Tryz.func108 rfl (S.prim _ (by decide)) (by simp) (by kernel_rfl) ?_
 unfold Tryz.f108
 obtain ⟨L,hL⟩:∃L,L=ordP σ s0 s0.length []:=⟨_,rfl⟩
 have hLm:∀d∈L,hasS s0 d.d=true:=by
  intro d hd
  rw [hL] at hd
  rcases ordP_mem s0 _ _ d hd with h | ⟨x,hx,rfl⟩
  ·cases h
  ·unfold hasS;rw [List.find?_isSome];exact ⟨x,hx,by simp⟩
 have hLl:L.length≤8:=by rw [hL];have:=ordP_len (σ:=σ) s0 s0.length [];simp at this;omega
 have eo:=(ret_Order S.toSettingS s0 k hs).eq
 rw [←hL] at eo hK
 obtain ⟨hbst,hstX⟩:=Y.low h0
 obtain ⟨v0,hv0⟩:∃v0,v0=slAV (nlK L) (L.map DigV.cells):=⟨_,rfl⟩
 rw [←hv0] at eo
 have hv0l:v0.leaf=true:=by rw [hv0];simp
 have hv0c:v0.cells=[v0]:=by rw [hv0];simp
 have eb:=fun (H:Heap) (K:AV→Heap→Prop)=>backD_eq S v0 hv0l hv0c (base:=base) (H:=H) K
 have hsrc:∀M,blkRow (X0++M) bs 0 1 0=some [slAV k (s0.map StoredV.cells)]:=fun M=>Y.src (Y.app M h0)
 refine cut (fun s X=>s 1=.ptr bs 0 1 0 0∧s 2=.ptr X0.length 0 1 0 0∧X=X0++[.rows 1 0 [[.yld bl]]]) ?_ ?_
 ·simp [argS]
  exact ⟨by intro x hx;simp only [AV.cells,List.mem_singleton] at hx;subst hx;rfl,rfl,rfl⟩
 rintro s X ⟨q1,q2,rfl⟩
 refine cut (fun s X=>s 1=.ptr bs 0 1 0 0∧s 2=.ptr X0.length 0 1 0 0∧s 13=.fn 166 [.ptr (X0.length+1) 0 1 0 0]∧X=X0++[.rows 1 0 [[.yld bl]],.rows 1 0 [[v0]]]) ?_ ?_
 ·simp [q1,q2,hsrc,eo,eb]
 clear q1 q2
 rintro s X ⟨q1,q2,q13,rfl⟩
 rw [wp_block,wp_range]
 refine range_rule (f:=166) (caps:=[.ptr (X0.length+1) 0 1 0 0]) (by simp [q13]) fun l1 hr1=>?_
 refine lat_outer S (s:=s0) Y (kL:=nlK L) (L:=L) (by omega) h0 (by rw [hv0]) (by simp) rfl ?_ _ ?_
 rotate_left
 ·rintro X ⟨hI,g0,g1,g2⟩
  have hlen:(X0++[Blk.rows 1 0 [[AV.yld bl]],.rows 1 0 [[v0]]]).length=X0.length+2:=by simp
  rw [hlen,afterR_loop g2]
  simp
  exact hK _ (Y.set _ hI (by omega) g2 (by intro g rs h;cases h))
 rw [←hv0]
 intro LB BB hLB hBB j m X d hJ hmj hd
 obtain ⟨hI,g0,g1,g2⟩:=hJ
 have hLr:∀sz g rs,LB≠.rows sz g rs:=by intro sz g rs h;rw [←hLB] at h;cases h
 have hBr:∀sz g rs,BB≠.rows sz g rs:=by intro sz g rs h;rw [←hBB] at h;cases h
 have hXl:X0.length+2<X.length:=(List.getElem?_eq_some_iff.1 g2).1
 have hdm:d∈L:=List.mem_of_getElem? hd
 obtain ⟨hpg,_⟩:=getP_good hs (hLm d hdm)
 have eg:=(ret_GetP S.toSettingS s0 k d hs.2.2).eq
 have ea:=(ret_Atoms S.toSettingQ (getP s0 d.d) hpg).eq
 obtain ⟨p,hp⟩:∃p,p=getP s0 d.d:=⟨_,rfl⟩
 obtain ⟨A,hA⟩:∃A,A=atomsP σ p:=⟨_,rfl⟩
 have hsucc:=latA_succ (σ:=σ) (s:=s0) hmj hd
 have hlat:=latA_len (σ:=σ) hs hLm (j+1)
 rw [←hp] at eg ea hpg hsucc
 rw [←hA] at ea hsucc
 have hAl:A.length≤90000:=by rw [hA];exact atomsP_len hpg
 have hAo:∀x∈A,x.over.length≤2^10:=by rw [hA];exact atomsP_over S.permI hpg
 obtain ⟨vA,hvA⟩:∃vA,vA=slAV .loose (A.map AtV.cells):=⟨_,rfl⟩
 have hsl:AV.lst (A.map AtV.cells) false=vA:=by rw [hvA];cases A<;>rfl
 rw [hsl] at ea
 have eba:=fun (H:Heap) (K:AV→Heap→Prop)=>backA_eq S vA (by rw [hvA];simp) (by rw [hvA];simp) (base:=base) (H:=H) K
 obtain ⟨W,hW⟩:∃W,W=X.set (X0.length+2) BB:=⟨_,rfl⟩
 have hWl:W.length=X.length:=by rw [hW];simp
 have hIW:I (latA σ s0 L j) W:=by rw [hW];exact Y.set BB hI (by omega) g2 (hLr _)
 have hgl:∀M,(X++M)[X0.length+2]?=some LB:=fun M=>by rw [List.getElem?_append_left hXl];exact g2
 have hsl2:∀M,(X++M).set (X0.length+2) BB=W++M:=fun M=>by rw [hW];exact List.set_append_left _ _ hXl
 have hsrcW:∀M,blkRow (W++M) bs 0 1 0=some [slAV k (s0.map StoredV.cells)]:=fun M=>Y.src (Y.app M hIW)
 have hbX:base≤X.length:=by omega
 have gW0:W[X0.length]?=some (.rows 1 0 [[.yld bl]]):=by rw [hW,List.getElem?_set_ne (by omega)];exact g0
 have gW1:W[X0.length+1]?=some (.rows 1 0 [[v0]]):=by rw [hW,List.getElem?_set_ne (by omega)];exact g1
 have gW2:W[X0.length+2]?=some BB:=by rw [hW,List.getElem?_set_self hXl]
 have hd0:digest0.length=32:=by decide
 have h32:d.d.length=32:=d.h
 have hdc:d.cells=dig d.d:=rfl
 have g2':=g2
 rw [←hLB] at g2'
 refine yield_rule hr1 (hget:=g2') (by omega) rfl (by decide) (by kernel_rfl) (by kernel_rfl) ?_
 rw [hLB,hBB]
 have hb32:∀M,blkRow (W++Blk.rows 32 0 [d.cells]::M) X.length 0 32 0=some d.cells:=fun M=>by rw [←hWl];simp
 have hdr:List.drop 32 (dig digest0)=[]:=by decide
 simp [q1,q2,storeA,hd0,hdr,hgl,hsl2,hbX,hsrcW,hb32,eg,ea,eba,fillA]
 refine ⟨by omega,?_⟩
 refine range_rule (f:=167) (caps:=[.ptr (W.length+2) 0 1 0 0]) (by simp) fun l2 hr2=>?_
 refine lat_inner S (s:=s0) Y (kA:=.loose) (A:=A) (by omega) hIW gW0 gW1 gW2 (by rw [←hvA]) (by simp) rfl ?_ _ ?_
 rotate_left
 ·rintro X3 ⟨hI3,f0,f1,f2,f3,f4⟩
  have hlen:(W++[Blk.rows 32 0 [d.cells],.rows 5 0 [p.cells],.rows 1 0 [[vA]]]).length=W.length+2+1:=by simp
  rw [hlen,afterR_loop f4]
  have hI4:=Y.set .dead hI3 (by omega) f4 (by intro g rs h;cases h)
  have hX3:W.length+2+1<X3.length:=(List.getElem?_eq_some_iff.1 f4).1
  have f2':(X3.set (W.length+2+1) .dead)[X0.length+2]?=some BB:=by rw [List.getElem?_set_ne (by omega)];exact f2
  have hI5:=Y.set LB hI4 (by omega) f2' (hBr _)
  rw [←List.length_reverse,List.take_length,←hsucc] at hI5
  simp [f2',hLB]
  refine ⟨rfl,hI5,?_,?_,?_⟩
  ·rw [List.getElem?_set_ne (by omega),List.getElem?_set_ne (by omega)];exact f0
  ·rw [List.getElem?_set_ne (by omega),List.getElem?_set_ne (by omega)];exact f1
  ·rw [List.getElem?_set_self (by simp;omega)]
 rw [←hvA]
 intro LB2 BB2 hLB2 hBB2 j2 m2 X3 x hK2 hm2 hx2
 obtain ⟨hI3,f0,f1,f2,f3,f4⟩:=hK2
 have hL2r:∀sz g rs,LB2≠.rows sz g rs:=by intro sz g rs h;rw [←hLB2] at h;cases h
 have hB2r:∀sz g rs,BB2≠.rows sz g rs:=by intro sz g rs h;rw [←hBB2] at h;cases h
 have hX3l:W.length+2+1<X3.length:=(List.getElem?_eq_some_iff.1 f4).1
 have hxm:x∈A:=List.mem_of_getElem? hx2
 have hrev:A.reverse[j2]?=some x:=by rw [List.getElem?_reverse (by omega),show A.length-1-j2=m2 by omega];exact hx2
 have htk:A.reverse.take (j2+1)=A.reverse.take j2++[x]:=by rw [List.take_add_one,hrev];rfl
 obtain ⟨V,hV⟩:∃V,V=X3.set (W.length+2+1) BB2:=⟨_,rfl⟩
 have hVl:V.length=X3.length:=by rw [hV];simp
 have hIV:I (latA σ s0 L j++A.reverse.take j2) V:=by rw [hV];exact Y.set BB2 hI3 (by omega) f4 (hL2r _)
 have hgl3:∀M,(X3++M)[W.length+2+1]?=some LB2:=fun M=>by rw [List.getElem?_append_left hX3l];exact f4
 have hsl3:∀M,(X3++M).set (W.length+2+1) BB2=V++M:=fun M=>by rw [hV];exact List.set_append_left _ _ hX3l
 have hPl:(latA σ s0 L j++A.reverse.take j2).length≤2^20:=by
  rw [hsucc] at hlat
  simp only [List.length_append,List.length_reverse,List.length_take] at hlat ⊢
  omega
 obtain ⟨X5,hI5,hkeep,ey⟩:=Y.yld x (Y.app [.rows 172 0 [x.cells]] hIV) hPl (hAo x hxm)
 have kV:∀{b:Nat} {blk:Blk},b≠W.length+2+1→X3[b]?=some blk→start≤b→(∀g rs,blk≠.rows 33 g rs)→X5[b]?=some blk:=by
  intro b blk hb hg hst hne
  have hbl:=(List.getElem?_eq_some_iff.1 hg).1
  refine hkeep b blk hst ?_ hne
  rw [List.getElem?_append_left (by omega),hV,List.getElem?_set_ne (Ne.symm hb)];exact hg
 have f4v:X5[W.length+2+1]?=some BB2:=hkeep _ _ (by omega) (by rw [List.getElem?_append_left (by omega),hV,List.getElem?_set_self hX3l]) (hB2r _)
 have hX5l:W.length+2+1<X5.length:=(List.getElem?_eq_some_iff.1 f4v).1
 have fy:∀M,blkRow (V++M) X0.length 0 1 0=some [.yld bl]:=fun M=>by
  have:V[X0.length]?=some (.rows 1 0 [[.yld bl]]):=by rw [hV,List.getElem?_set_ne (by omega)];exact f0
  exact blk_app (by simp [blkRow,this]) M
 have fx:∀M,blkRow (V++Blk.rows 172 0 [x.cells]::M) X3.length 0 172 0=some x.cells:=fun M=>by rw [←hVl];simp
 have f4':=f4
 rw [←hLB2] at f4'
 refine yield_rule hr2 (hget:=f4') (by omega) rfl (by decide) (by kernel_rfl) (by kernel_rfl) ?_
 rw [hLB2,hBB2]
 have hb3:base≤X3.length:=by omega
 have q2b:X0.length=X0.length:=rfl
 simp [q2,storeA,fillA,hgl3,hsl3,hb3,fy,fx,ey,f4v,hLB2]
 have hI6:=Y.set LB2 hI5 (by omega) f4v (hB2r _)
 rw [List.append_assoc,←htk] at hI6
 refine ⟨rfl,hI6,?_,?_,?_,?_,?_⟩
 ·rw [List.getElem?_set_ne (by omega)];exact kV (by omega) f0 (by omega) (by intro g rs h;cases h)
 ·rw [List.getElem?_set_ne (by omega)];exact kV (by omega) f1 (by omega) (by intro g rs h;cases h)
 ·rw [List.getElem?_set_ne (by omega)];exact kV (by omega) f2 (by omega) (hBr _)
 ·rw [List.getElem?_set_ne (by omega)];exact kV (by omega) f3 (by omega) (by intro g rs h;cases h)
 ·rw [show W.length+3=W.length+2+1 from rfl,List.getElem?_set_self hX5l]
end Go.Proofs.Ev
namespace Go.Proofs.Ev
open Go.Proofs
variable {C:Cfg} {σ:Sorts}
theorem sameId_eq {a b:IdV} (h:sameId a b=true):a=b:=by
 rw [sameId_iff] at h
 cases a;cases b
 simp only at h
 obtain ⟨rfl,rfl⟩:=h
 rfl
theorem conf_id (x:IdV):conf (List.replicate 32 (.int .u8)++[.int .i64]) x.cells=true:=by
 have key:∀(ks:List LK) (cs:List AV),conf ks cs=true→conf (ks++[.int .i64]) (cs++[.int .i64 x.n])=true:=by
  intro ks
  induction ks with
  | nil =>
   intro cs h
   cases cs with
   | nil=>rfl
   | cons _ _=>cases h
  | cons k ks ih =>
   intro cs h
   cases cs with
   | nil=>cases h
   | cons c cs =>
    simp only [conf,Bool.and_eq_true] at h
    simp only [List.cons_append,conf,Bool.and_eq_true]
    exact ⟨h.1,ih cs h.2⟩
 have h1:=conf_dig x.d;rw [x.h] at h1
 exact key _ _ h1
theorem keyOk_I (S:Setting C) (x:IdV):keyOk Tryz.prog C 27 (.agg x.cells)=true:=by
 simp only [keyOk,Tryz.underlying27,S.kId]
 exact conf_id x
theorem keyEq_I (S:Setting C) (a b:IdV):keyEqA Tryz.prog C 27 (.agg a.cells) (.agg b.cells)=some (sameId a b):=by
 have h:=eq_idV S a b
 simp only [binA] at h
 simp only [keyEqA]
 cases he:eqA Tryz.prog C 27 (.agg a.cells) (.agg b.cells) with
 | none=>rw [he] at h;cases h
 | some z=>rw [he] at h;simpa using h
def entI (l:List (IdV×AV)):List (AV×AV):=l.map fun x=>(.agg x.1.cells,x.2)
def posK (l:List (IdV×AV)) (d:IdV):Option (Nat×AV) :=
 match l with
 | []=>none
 | x::l=>if sameId x.1 d then some (0,x.2) else (posK l d).map fun p=>(p.1+1,p.2)
theorem sameId_comm (a b:IdV):sameId a b=sameId b a:=by
 rw [Bool.eq_iff_iff,sameId_iff,sameId_iff]
 exact ⟨fun h=>⟨h.1.symm,h.2.symm⟩,fun h=>⟨h.1.symm,h.2.symm⟩⟩
theorem find_I (S:Setting C) (d:IdV):∀(l:List (IdV×AV)) (i:Nat),findA Tryz.prog C 27 (.agg d.cells) (entI l) i=some ((posK l d).map fun p=>(p.1+i,p.2))
 | [],i=>rfl
 | x::l,i=>by
  have ih:=find_I S d l (i+1)
  rw [entI,List.map_cons,findA,keyEq_I S,posK,sameId_comm d x.1]
  cases h:sameId x.1 d with
  | true=>simp
  | false =>
   simp only [Bool.false_eq_true,if_false]
   show findA Tryz.prog C 27 (.agg d.cells) (entI l) (i+1)=_
   rw [ih]
   cases posK l d with
   | none=>rfl
   | some p=>simp;omega
theorem posK_some:∀{l:List (IdV×AV)} {d:IdV} {i:Nat} {v:AV},posK l d=some (i,v)→l[i]?=some (d,v)
 | [],_,_,_,h=>by cases h
 | x::l,d,i,v,h=>by
  rw [posK] at h
  cases hs:sameId x.1 d with
  | true =>
   rw [hs,if_pos rfl] at h
   cases h
   rw [List.getElem?_cons_zero,←sameId_eq hs]
  | false =>
   rw [hs,if_neg (by decide)] at h
   cases hp:posK l d with
   | none=>rw [hp] at h;cases h
   | some p =>
    rw [hp] at h
    cases h
    exact posK_some (l:=l) hp
def hasI (l:List IdV) (d:IdV):Bool:=l.any fun x=>sameId x d
def addI (l:List IdV) (d:IdV):List IdV:=if hasI l d then l else l++[d]
def retE (l:List IdV):List (IdV×AV):=l.map fun d=>(d,AV.bool true)
theorem pos_ret:∀(l:List IdV) (d:IdV),(posK (retE l) d).isSome=hasI l d∧∀p,posK (retE l) d=some p→p.2=AV.bool true
 | [],d=>by simp [retE,posK,hasI]
 | x::l,d=>by
  have ih:=pos_ret l d
  have hc:posK (retE (x::l)) d=if sameId x d then some (0,AV.bool true) else (posK (retE l) d).map fun p=>(p.1+1,p.2):=rfl
  rw [hc]
  cases h:sameId x d with
  | true=>exact ⟨by simp [hasI,h],fun p hp=>by cases hp;rfl⟩
  | false =>
   simp only [Bool.false_eq_true,if_false]
   refine ⟨?_,fun p hp=>?_⟩
   ·rw [Option.isSome_map,ih.1];simp [hasI,h]
   ·cases hq:posK (retE l) d with
    | none=>rw [hq] at hp;cases hp
    | some q=>rw [hq] at hp;cases hp;exact ih.2 q hq
theorem look_ret (S:Setting C) {X:Heap} {m:Nat} {l:List IdV} (hm:X[m]?=some (.map (entI (retE l)))) (d:IdV):lookupA Tryz.prog C X 90 (.map m) (.agg d.cells) false=some (.bool (hasI l d)):=by
 have hf:=find_I S d (retE l) 0
 obtain ⟨h1,h2⟩:=pos_ret l d
 simp only [lookupA,un90,keyOk_I S,entsA,hm,hf,if_true]
 cases hp:posK (retE l) d with
 | none=>rw [hp] at h1;simp at h1;simp [←h1]
 | some p=>rw [hp] at h1;simp at h1;simp [h2 p hp,←h1]
theorem upd_ret (S:Setting C) {base:Nat} {X:Heap} {m:Nat} {l:List IdV} (hb:base≤m) (hm:X[m]?=some (.map (entI (retE l)))) (d:IdV) :
 updateA Tryz.prog C base X 90 (.map m) (.agg d.cells) (.bool true)=some (X.set m (.map (entI (retE (addI l d))))):=by
 have hf:=find_I S d (retE l) 0
 obtain ⟨h1,h2⟩:=pos_ret l d
 simp only [updateA,un90,keyOk_I S,hm,hf,hb,and_self,if_true]
 cases hp:posK (retE l) d with
 | none =>
  rw [hp] at h1
  have h0:hasI l d=false:=by simpa using h1.symm
  simp [addI,h0,entI,retE]
 | some p =>
  rw [hp] at h1
  have h0:hasI l d=true:=by simpa using h1.symm
  obtain ⟨i,v⟩:=p
  have h3:=posK_some hp
  have h4:v=.bool true:=h2 _ hp
  subst h4
  have hent:(entI (retE l)).set i (.agg d.cells,.bool true)=entI (retE l):=by
   have he:(entI (retE l))[i]?=some (.agg d.cells,.bool true):=by rw [entI,List.getElem?_map,h3];rfl
   obtain ⟨hi,he⟩:=List.getElem?_eq_some_iff.1 he
   rw [←he,List.set_getElem_self]
  simp [addI,h0,hent]
structure KR where
 k:IdV
 b:Nat
 g:Nat
 l:List IdV
def KR.v (t:KR):AV:=.sl t.b t.g 33 0 t.l.length
def KR.e (t:KR):IdV×AV:=(t.k,t.v)
def KR.m (t:KR):IdV×List IdV:=(t.k,t.l)
def addM (M:List (IdV×List IdV)) (d y:IdV):List (IdV×List IdV) :=
 match M with
 | []=>[(d,[y])]
 | x::M=>if sameId x.1 d then (x.1,x.2++[y])::M else x::addM M d y
def KsIs (lo:Nat) (T:List KR) (X:Heap):Prop:=(∀t∈T,lo≤t.b∧X[t.b]?=some (.rows 33 t.g (t.l.map IdV.cells)))∧∀(i j:Nat) (t u:KR),T[i]?=some t→T[j]?=some u→i≠j→t.b≠u.b
theorem KsIs.keep {lo:Nat} {T:List KR} {X X':Heap} (h:KsIs lo T X) (hX:∀(b g:Nat) (rs:List (List AV)),X[b]?=some (Blk.rows 33 g rs)→X'[b]?=some (Blk.rows 33 g rs)):KsIs lo T X' :=
 ⟨fun t ht=>⟨(h.1 t ht).1,hX _ _ _ (h.1 t ht).2⟩,h.2⟩
theorem app_abs {P:Program} {base:Nat} {ts:Array TypeId} {e:TypeId} {xd:TypeDesc} {sz by_:Nat} (h0:(ts[0]?).bind P.underlying=some (.slice e)) (h1:(ts[1]?).bind P.underlying=some xd) (hs:szOf P e=some sz) (hb:bytesOf P e=some by_)
 (hz:(ofZero P e).map (fun z=>z.cells.length)=some sz) (hp:0<sz) {X:Heap} (hX:base≤X.length) {v x:AV} {rows ys:List (List AV)} (hv:(rows=[]∧v=.nils)∨∃b g,v=.sl b g sz 0 rows.length∧X[b]?=some (.rows sz g rows)∧base≤b)
 (hx:tailRows X xd x=some ys) (hy:∀r∈ys,r.length=sz) (hne:ys≠[]) (hbound:(rows.length+ys.length)*(by_+1)≤2^45) :
 ∃b g X',appendA P base X ts v.denil x=some (.sl b g sz 0 (rows.length+ys.length),X')∧X'[b]?=some (.rows sz g (rows++ys))∧(∀k,k≠b→k<X.length→X'[k]?=X[k]?)∧((∃g' l,v=.sl b g' sz 0 l)∨(v=.nils∧b=X.length))∧base≤b∧X.length≤X'.length:=by
 have hc:(ys.all fun r=>decide (r.length=sz))=true:=by simpa using hy
 unfold appendA
 simp only [h0,h1,hs,hb,hx,hc,hp,hz,and_self,if_true]
 rcases hv with ⟨rfl,rfl⟩ | ⟨b,g,rfl,hg,hbb⟩
 ·simp only [AV.denil]
  rw [if_neg (by simpa using hne),if_pos ⟨trivial,by simpa using hbound,by simp⟩]
  refine ⟨X.length,clsG P e sz,_,rfl,by simp,fun k hk hkl=>by rw [List.getElem?_append_left hkl],.inr (by simp),hX,by simp⟩
 ·have hlt:b<X.length:=(List.getElem?_eq_some_iff.1 hg).1
  simp only [AV.denil,hg]
  rw [if_pos ⟨hbb,trivial,trivial,trivial,trivial,hbound⟩]
  exact ⟨b,_,_,rfl,by rw [List.getElem?_set_self hlt],fun k hk _=>by rw [List.getElem?_set_ne (Ne.symm hk)],.inl ⟨_,_,rfl⟩,hbb,by simp⟩
end Go.Proofs.Ev
namespace Go.Proofs.Ev
open Go.Proofs
variable {C:Cfg} {σ:Sorts}
theorem addM_some {d y:IdV} {b g:Nat}:∀{T:List KR} {i:Nat} {v:AV} {t:KR},posK (T.map KR.e) d=some (i,v)→T[i]?=some t→addM (T.map KR.m) d y=(T.set i ⟨d,b,g,t.l++[y]⟩).map KR.m
 | [],i,v,t,h,_=>by cases h
 | x::T,i,v,t,h,ht=>by
  have hc:posK ((x::T).map KR.e) d=if sameId x.k d then some (0,x.v) else (posK (T.map KR.e) d).map fun p=>(p.1+1,p.2):=rfl
  have ha:addM ((x::T).map KR.m) d y=if sameId x.k d then (x.k,x.l++[y])::T.map KR.m else x.m::addM (T.map KR.m) d y:=rfl
  rw [hc] at h
  rw [ha]
  cases hs:sameId x.k d with
  | true =>
   rw [hs,if_pos rfl] at h
   cases h
   rw [List.getElem?_cons_zero] at ht
   cases ht
   rw [if_pos rfl,List.set_cons_zero,List.map_cons,sameId_eq hs];rfl
  | false =>
   rw [hs,if_neg (by decide)] at h
   rw [if_neg (by decide)]
   cases hp:posK (T.map KR.e) d with
   | none=>rw [hp] at h;cases h
   | some p =>
    rw [hp] at h
    cases h
    rw [List.getElem?_cons_succ] at ht
    rw [addM_some (b:=b) (g:=g) hp ht,List.set_cons_succ,List.map_cons]
theorem addM_none {d y:IdV}:∀{T:List KR},posK (T.map KR.e) d=none→addM (T.map KR.m) d y=T.map KR.m++[(d,[y])]
 | [],_=>rfl
 | x::T,h=>by
  have hc:posK ((x::T).map KR.e) d=if sameId x.k d then some (0,x.v) else (posK (T.map KR.e) d).map fun p=>(p.1+1,p.2):=rfl
  have ha:addM ((x::T).map KR.m) d y=if sameId x.k d then (x.k,x.l++[y])::T.map KR.m else x.m::addM (T.map KR.m) d y:=rfl
  rw [hc] at h
  rw [ha]
  cases hs:sameId x.k d with
  | true=>rw [hs,if_pos rfl] at h;cases h
  | false =>
   rw [hs,if_neg (by decide)] at h
   rw [if_neg (by decide),addM_none (by simpa using h)];rfl
structure KB (base lo b1 m1 b2 m2 n:Nat) (R:List IdV) (M:List (IdV×List IdV)) (V:Heap):Prop where
 p1:blkRow V b1 0 1 0=some [.map m1]
 r:V[m1]?=some (.map (entI (retE R)))
 p2:blkRow V b2 0 1 0=some [.map m2]
 o:∃T:List KR,V[m2]?=some (.map (entI (T.map KR.e)))∧T.map KR.m=M∧KsIs lo T V∧∀t∈T,t.l.length≤n
 ne:m1≠m2
 low:base≤m1∧base≤m2∧base≤lo∧lo≤V.length∧b1<lo∧m1<lo∧b2<lo∧m2<lo
theorem blk1_of {X X':Heap} {b:Nat} {r:List AV} (h:blkRow X b 0 1 0=some r) (hk:∀blk,X[b]?=some blk→(∀g rs,blk≠Blk.rows 33 g rs)→X'[b]?=some blk):blkRow X' b 0 1 0=some r:=by
 unfold blkRow at h ⊢
 cases hb:X[b]? with
 | none=>rw [hb] at h;cases h
 | some blk =>
  rw [hb] at h
  cases blk with
  | rows e g rs =>
   simp only at h
   split at h
   ·rename_i hc
    obtain ⟨rfl,rfl⟩:=hc
    rw [hk _ hb (by intro g' rs' h';cases h')]
    simpa using h
   ·cases h
  | _=>cases h
theorem KB.keep {base lo b1 m1 b2 m2 n:Nat} {R:List IdV} {M:List (IdV×List IdV)} {V V':Heap} (h:KB base lo b1 m1 b2 m2 n R M V) (hl:V.length≤V'.length) (h1:∀b blk,b<lo→V[b]?=some blk→(b=b1∨b=m1∨b=b2∨b=m2)→V'[b]?=some blk)
 (h2:∀(b g:Nat) (rs:List (List AV)),V[b]?=some (Blk.rows 33 g rs)→V'[b]?=some (Blk.rows 33 g rs)):KB base lo b1 m1 b2 m2 n R M V':=by
 obtain ⟨a1,a2,a3,⟨T,t1,t2,t3,t4⟩,a5,a6,a7,a8,a9,c1,c2,c3,c4⟩:=h
 exact ⟨blk1_of a1 fun blk hb _=>h1 _ _ c1 hb (.inl rfl),h1 _ _ c2 a2 (.inr (.inl rfl)),blk1_of a3 fun blk hb _=>h1 _ _ c3 hb (.inr (.inr (.inl rfl))),⟨T,h1 _ _ c4 t1 (.inr (.inr (.inr rfl))),t2,t3.keep h2,t4⟩,a5,a6,a7,a8,by omega,c1,c2,c3,c4⟩
theorem KB.app {base lo b1 m1 b2 m2 n:Nat} {R:List IdV} {M:List (IdV×List IdV)} {V:Heap} (h:KB base lo b1 m1 b2 m2 n R M V) (L:Heap):KB base lo b1 m1 b2 m2 n R M (V++L) :=
 h.keep (by simp) (fun b blk _ hb _=>by rw [List.getElem?_append_left (List.getElem?_eq_some_iff.1 hb).1];exact hb) fun b g rs hb=>by rw [List.getElem?_append_left (List.getElem?_eq_some_iff.1 hb).1];exact hb
set_option maxHeartbeats 2000000 in
theorem kill_op (S:Setting C) {base lo b1 m1 b2 m2 n:Nat} {R:List IdV} {M:List (IdV×List IdV)} {X V:Heap} {B:Blk} (h:KB base lo b1 m1 b2 m2 n R M X) (hV:V=X++[B]) (hn:n≤2^32) (d y:IdV) :
 ∃v i V1 sl V2 V3,mapEntryA Tryz.prog C base V 88 (.map m2) (.agg d.cells)=some (.tup [v,.int .i64 i],V1)∧appendA Tryz.prog base V1 #[34,34] v.denil (.lst [y.cells] true)=some (sl,V2)∧
  entryStoreA base V2 (.map m2) (.int .i64 i) sl=some V3∧KB base lo b1 m1 b2 m2 (n+1) R (addM M d y) V3∧(∀b blk,b≠m2→V[b]?=some blk→(∀g rs,blk≠Blk.rows 33 g rs)∨b=X.length∨b<lo→V3[b]?=some blk)∧V.length≤V3.length:=by
 obtain ⟨a1,a2,a3,⟨T,t1,t2,t3,t4⟩,a5,a6,a7,a8,a9,c1,c2,c3,c4⟩:=h
 have oldX:∀t∈T,t.b<X.length:=fun t ht=>(List.getElem?_eq_some_iff.1 (t3.1 t ht).2).1
 have up:∀{b:Nat} {blk:Blk},X[b]?=some blk→V[b]?=some blk:=fun h=>by rw [hV,List.getElem?_append_left (List.getElem?_eq_some_iff.1 h).1];exact h
 replace a1:=by have:=blk_app a1 [B];rw [←hV] at this;exact this
 replace a3:=by have:=blk_app a3 [B];rw [←hV] at this;exact this
 replace a2:=up a2
 replace t1:=up t1
 replace t3:=t3.keep (X':=V) fun b g rs h=>up h
 have hVl:V.length=X.length+1:=by rw [hV];simp
 replace a9:lo≤V.length:=by omega
 have hmV:m2<V.length:=(List.getElem?_eq_some_iff.1 t1).1
 have hf:=find_I S d (T.map KR.e) 0
 have hy:∀r∈[y.cells],r.length=33:=by simp
 cases hp:posK (T.map KR.e) d with
 | none =>
  rw [hp] at hf
  have hme:mapEntryA Tryz.prog C base V 88 (.map m2) (.agg d.cells)=some (.tup [.nils,.int .i64 (T.length:Int)],V.set m2 (.map (entI (T.map KR.e)++[(.agg d.cells,.nils)]))):=by
   simp only [mapEntryA,un88,keyOk_I S,t1,hf,a7,and_self,if_true,Option.map_none]
   simp [entI]
  obtain ⟨b,g,V2,ha,hb,hk,hd,hbb,hl⟩:=app_abs (P:=Tryz.prog) (base:=base) (ts:=#[34,34]) (e:=27) (xd:=.slice 27) (X:=V.set m2 (.map (entI (T.map KR.e)++[(.agg d.cells,.nils)]))) (v:=.nils) (rows:=[]) (x:=.lst [y.cells] true) (ys:=[y.cells])
   (by simp) (by simp) sz27 by27 (by simp) (by decide) (by simp;omega) (.inl ⟨rfl,rfl⟩) rfl hy (by simp) (by simp)
  have hbl:b=V.length:=by
   rcases hd with ⟨_,_,hd⟩ | hd
   ·cases hd
   ·simpa using hd.2
  subst hbl
  have hm2:V2[m2]?=some (.map (entI (T.map KR.e)++[(.agg d.cells,.nils)])):=by rw [hk m2 (by omega) (by simpa using hmV),List.getElem?_set_self hmV]
  have hm2l:m2<V2.length:=(List.getElem?_eq_some_iff.1 hm2).1
  have hl2:V.length≤V2.length:=by simpa using hl
  have hkeep:∀b blk,b≠m2→V[b]?=some blk→(V2.set m2 (.map (entI ((T++[KR.mk d V.length g [y]]).map KR.e))))[b]?=some blk:=fun b blk hbm hbv=>by
   have hbl:=(List.getElem?_eq_some_iff.1 hbv).1
   rw [List.getElem?_set_ne (Ne.symm hbm),hk b (by omega) (by simpa using hbl),List.getElem?_set_ne (Ne.symm hbm)];exact hbv
  refine ⟨_,_,_,_,V2,V2.set m2 (.map (entI ((T++[KR.mk d V.length g [y]]).map KR.e))),hme,ha,?_,⟨blk1_of a1 fun blk hb _=>hkeep _ _ (fun h=>by rw [h] at hb;rw [h] at a1;simp [blkRow,t1] at a1) hb,hkeep _ _ a5 a2,blk1_of a3 fun blk hb _=>hkeep _ _ (fun h=>by rw [h] at a3;simp [blkRow,t1] at a3) hb,⟨T++[KR.mk d V.length g [y]],by rw [List.getElem?_set_self hm2l],?_,⟨?_,?_⟩,?_⟩,a5,a6,a7,a8,by simp;omega,c1,c2,c3,c4⟩,fun b blk hbm hbv _=>hkeep b blk hbm hbv,by simpa using hl2⟩
  ·simp only [entryStoreA,a7,hm2]
   simp [entI,KR.e,KR.v]
  ·rw [←t2,addM_none hp,List.map_append];rfl
  ·intro t ht
   rcases List.mem_append.1 ht with ht | ht
   ·obtain ⟨h1,h2⟩:=t3.1 t ht
    exact ⟨h1,hkeep _ _ (fun h=>by rw [h,t1] at h2;cases h2) h2⟩
   ·rw [List.mem_singleton] at ht
    subst ht
    refine ⟨a9,?_⟩
    rw [List.getElem?_set_ne (by show m2≠V.length;omega)];exact hb
  ·intro i j t u hi hj hij
   have old:∀(i:Nat) (t:KR),T[i]?=some t→t.b<V.length:=fun i t ht=>(List.getElem?_eq_some_iff.1 (t3.1 t (List.mem_of_getElem? ht)).2).1
   rcases Nat.lt_or_ge i T.length with hi' | hi'<;>rcases Nat.lt_or_ge j T.length with hj' | hj'
   ·rw [List.getElem?_append_left hi'] at hi;rw [List.getElem?_append_left hj'] at hj;exact t3.2 i j t u hi hj hij
   ·rw [List.getElem?_append_left hi'] at hi;rw [List.getElem?_append_right hj'] at hj
    have:=old i t hi
    cases hjj:j-T.length with
    | zero=>rw [hjj] at hj;cases hj;simp only;omega
    | succ q=>rw [hjj] at hj;cases hj
   ·rw [List.getElem?_append_right hi'] at hi;rw [List.getElem?_append_left hj'] at hj
    have:=old j u hj
    cases hii:i-T.length with
    | zero=>rw [hii] at hi;cases hi;simp only;omega
    | succ q=>rw [hii] at hi;cases hi
   ·have h1:=(List.getElem?_eq_some_iff.1 hi).1
    have h2:=(List.getElem?_eq_some_iff.1 hj).1
    simp at h1 h2;omega
  ·intro t ht
   rcases List.mem_append.1 ht with ht | ht
   ·have:=t4 t ht;omega
   ·rw [List.mem_singleton] at ht;subst ht;simp
 | some p =>
  obtain ⟨i,v⟩:=p
  rw [hp] at hf
  have hTi:=posK_some hp
  rw [List.getElem?_map] at hTi
  cases htt:T[i]? with
  | none=>rw [htt] at hTi;cases hTi
  | some t =>
   rw [htt] at hTi
   have hte:t.e=(d,v):=by simpa using hTi
   have htk:t.k=d:=congrArg Prod.fst hte
   have htv:t.v=v:=congrArg Prod.snd hte
   have hil:i<T.length:=(List.getElem?_eq_some_iff.1 htt).1
   have htm:=List.mem_of_getElem? htt
   obtain ⟨s1,s2⟩:=t3.1 t htm
   have hent:(entI (T.map KR.e)).set i (.agg d.cells,v)=entI (T.map KR.e):=by
    have he:(entI (T.map KR.e))[i]?=some (.agg d.cells,v):=by rw [entI,List.getElem?_map,List.getElem?_map,htt];simp [hte]
    obtain ⟨hi,he⟩:=List.getElem?_eq_some_iff.1 he
    rw [←he,List.set_getElem_self]
   have hme:mapEntryA Tryz.prog C base V 88 (.map m2) (.agg d.cells)=some (.tup [v,.int .i64 (i:Int)],V.set m2 (.map (entI (T.map KR.e)))):=by
    simp only [mapEntryA,un88,keyOk_I S,t1,hf,a7,and_self,if_true,Option.map_some,Nat.add_zero,hent]
   have hVs:V.set m2 (.map (entI (T.map KR.e)))=V:=by
    obtain ⟨hi,he⟩:=List.getElem?_eq_some_iff.1 t1
    rw [←he,List.set_getElem_self]
   rw [hVs] at hme
   have hll:=t4 t htm
   obtain ⟨b,g,V2,ha,hb,hk,hd,hbb,hl⟩:=app_abs (P:=Tryz.prog) (base:=base) (ts:=#[34,34]) (e:=27) (xd:=.slice 27) (X:=V) (v:=v) (rows:=t.l.map IdV.cells) (x:=.lst [y.cells] true) (ys:=[y.cells])
    (by simp) (by simp) sz27 by27 (by simp) (by decide) (by omega) (.inr ⟨t.b,t.g,by rw [←htv,KR.v,List.length_map],s2,by omega⟩) rfl hy (by simp) (by simp;omega)
   have hbt:b=t.b:=by
    rcases hd with ⟨_,_,hd⟩ | hd
    ·rw [←htv,KR.v] at hd;cases hd;rfl
    ·rw [←htv] at hd;cases hd.1
   subst hbt
   have hmb:m2≠t.b:=fun h=>by rw [←h,t1] at s2;cases s2
   have hm2:V2[m2]?=some (.map (entI (T.map KR.e))):=by rw [hk m2 hmb hmV];exact t1
   have hm2l:m2<V2.length:=(List.getElem?_eq_some_iff.1 hm2).1
   have hes:(entI (T.map KR.e))[i]?=some (.agg d.cells,v):=by rw [entI,List.getElem?_map,List.getElem?_map,htt];simp [hte]
   obtain ⟨t',ht'⟩:∃t',t'=KR.mk d t.b g (t.l++[y]):=⟨_,rfl⟩
   have htb:t'.b=t.b:=by rw [ht']
   have hen:(entI (T.map KR.e)).set i (.agg d.cells,.sl t.b g 33 0 ((t.l.map IdV.cells).length+[y.cells].length))=entI ((T.set i t').map KR.e):=by
    rw [ht',List.map_set,entI,entI,List.map_set]
    simp [KR.e,KR.v]
   have hkeep:∀b blk,b≠m2→V[b]?=some blk→(∀g rs,blk≠Blk.rows 33 g rs)∨b=X.length∨b<lo→(V2.set m2 (.map (entI ((T.set i t').map KR.e))))[b]?=some blk:=fun b blk hbm hbv hne=>by
    have hbl:=(List.getElem?_eq_some_iff.1 hbv).1
    have hbt:b≠t.b:=fun h=>by
     rcases hne with hne | hne | hne
     ·rw [h,s2] at hbv;cases hbv;exact hne _ _ rfl
     ·have:=oldX t htm;omega
     ·omega
    rw [List.getElem?_set_ne (Ne.symm hbm),hk b hbt hbl];exact hbv
   have hne1:b1≠m2:=fun h=>by rw [h] at a1;simp [blkRow,t1] at a1
   have hne2:b2≠m2:=fun h=>by rw [h] at a3;simp [blkRow,t1] at a3
   refine ⟨_,_,_,_,V2,V2.set m2 (.map (entI ((T.set i t').map KR.e))),hme,ha,?_,⟨blk1_of a1 fun blk hb hn=>hkeep _ _ hne1 hb (.inl hn),hkeep _ _ a5 a2 (.inl (by intro g rs h;cases h)),blk1_of a3 fun blk hb hn=>hkeep _ _ hne2 hb (.inl hn),⟨T.set i t',by rw [List.getElem?_set_self hm2l],?_,⟨?_,?_⟩,?_⟩,a5,a6,a7,a8,by simp;omega,c1,c2,c3,c4⟩,fun b blk hbm hbv hn=>hkeep b blk hbm hbv hn,by simpa using hl⟩
   ·simp only [entryStoreA,a7,hm2]
    rw [if_pos ⟨trivial,by omega⟩]
    simp only [Int.toNat_natCast,hes,hen]
   ·rw [←t2,addM_some (b:=t.b) (g:=g) hp htt,ht']
   ·intro u hu
    obtain ⟨j,hj,rfl⟩:=List.getElem_of_mem hu
    by_cases hij:i=j
    ·subst hij
     rw [List.getElem_set_self,htb]
     refine ⟨s1,?_⟩
     rw [List.getElem?_set_ne hmb,hb,ht'];simp
    ·rw [List.getElem_set_ne hij]
     have hjl:j<T.length:=by simpa using hj
     obtain ⟨u1,u2⟩:=t3.1 T[j] (List.getElem_mem hjl)
     have hub:=t3.2 j i T[j] t (List.getElem?_eq_getElem hjl) htt (Ne.symm hij)
     refine ⟨u1,?_⟩
     rw [List.getElem?_set_ne (fun h=>by rw [←h,t1] at u2;cases u2),hk _ hub (List.getElem?_eq_some_iff.1 u2).1];exact u2
   ·intro j1 j2 u w hj1 hj2 hne
    have get:∀(j:Nat) (u:KR),(T.set i t')[j]?=some u→∃u':KR,T[j]?=some u'∧u'.b=u.b:=by
     intro j u hj
     by_cases hij:i=j
     ·subst hij
      rw [List.getElem?_set_self hil] at hj
      cases hj
      exact ⟨t,htt,htb.symm⟩
     ·rw [List.getElem?_set_ne hij] at hj
      exact ⟨u,hj,rfl⟩
    obtain ⟨u',hu1,hu2⟩:=get j1 u hj1
    obtain ⟨w',hw1,hw2⟩:=get j2 w hj2
    rw [←hu2,←hw2]
    exact t3.2 j1 j2 u' w' hu1 hw1 hne
   ·intro u hu
    rcases List.mem_or_eq_of_mem_set hu with hu | rfl
    ·have:=t4 u hu;omega
    ·rw [ht'];simp;omega
end Go.Proofs.Ev
