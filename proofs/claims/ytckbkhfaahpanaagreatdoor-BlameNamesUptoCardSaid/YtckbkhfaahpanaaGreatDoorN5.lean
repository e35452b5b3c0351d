/- Part 5 of the proof that quiltlaw38.BlameNames returns true: no statement of its own. -/
import Derived.Test.YtckbkhfaahpanaaGreatDoorN4
import Derived.OrdersIn
import Derived.Test.YtckbkhfaahpanaaGreatDoorN0
set_option linter.all false
namespace Go.Proofs.Ev
open Go.RowKit
variable {P:Program} {C:Cfg} {N:Low} {φ φ':Phi} {H H':Heap} {w w':World} {n:Nat}
mutual
theorem closed_bnd {k:Nat}:∀v:AV,v.closed=true→Bnd k v
 | .undef,h=>by simp [AV.closed] at h
 | .bool b,_=>.bool b
 | .int i m,_=>.int i m
 | .str l,_=>.str l
 | .nilp,_=>.nilp
 | .ptr ..,h=>by simp [AV.closed] at h
 | .eptr cs,h=>.eptr (closeds_bnd cs (by simpa [AV.closed] using h))
 | .lst rs _,h=>.lst (closedss_bnd rs (by simpa [AV.closed] using h))
 | .sl ..,h=>by simp [AV.closed] at h
 | .asl ..,h=>by simp [AV.closed] at h
 | .nilm,_=>.nilm
 | .nils,_=>.nils
 | .map _,h=>by simp [AV.closed] at h
 | .nilf,_=>.nilf
 | .fn _ cs,h=>.fn (closeds_bnd cs (by simpa [AV.closed] using h))
 | .yld _,h=>by simp [AV.closed] at h
 | .agg cs,h=>.agg (closeds_bnd cs (by simpa [AV.closed] using h))
 | .tup cs,h=>.tup (closeds_bnd cs (by simpa [AV.closed] using h))
theorem closeds_bnd {k:Nat}:∀l:List AV,AV.closeds l=true→∀(j:Nat) (v:AV),l[j]?=some v→Bnd k v
 | [],_,j,v,h=>by simp at h
 | x::l,h,j,v,hj=>by
  simp only [AV.closeds,Bool.and_eq_true] at h
  cases j with
  | zero=>simp at hj;subst hj;exact closed_bnd x h.1
  | succ j=>exact closeds_bnd l h.2 j v (by simpa using hj)
theorem closedss_bnd {k:Nat}:∀l:List (List AV),AV.closedss l=true→∀(i:Nat) (row:List AV),l[i]?=some row→∀(j:Nat) (v:AV),row[j]?=some v→Bnd k v
 | [],_,i,row,h=>by simp at h
 | x::l,h,i,row,hi=>by
  simp only [AV.closedss,Bool.and_eq_true] at h
  cases i with
  | zero=>simp at hi;subst hi;exact closeds_bnd x h.1
  | succ i=>exact closedss_bnd l h.2 i row (by simpa using hi)
end
theorem mapM_get {α β:Type} {f:α→Option β}:∀{l:List α} {l':List β},l.mapM f=some l'→l'.length=l.length∧∀(j:Nat) (v:β),l'[j]?=some v→∃u,l[j]?=some u∧f u=some v
 | [],l',h=>by simp at h;subst h;exact ⟨rfl,fun j v hj=>by simp at hj⟩
 | a::l,l',h=>by
  simp only [List.mapM_cons,Option.bind_eq_bind,Option.pure_def] at h
  cases ha:f a with
  | none=>rw [ha] at h;cases h
  | some b =>
   cases hl:l.mapM f with
   | none=>rw [ha,hl] at h;cases h
   | some m =>
    rw [ha,hl] at h
    simp at h
    subst h
    obtain ⟨h1,h2⟩:=mapM_get hl
    refine ⟨by simp [h1],fun j v hj=>?_⟩
    cases j with
    | zero=>simp at hj;subst hj;exact ⟨a,rfl,ha⟩
    | succ j=>exact h2 j v (by simpa using hj)
theorem freeze_leaf {k d:Nat} {v v':AV} (h:freezeA H k d v=some v') (hl:v.leaf=true):v'.leaf=true:=by
 cases d with
 | zero=>simp only [freezeA] at h;split at h<;>cases h;exact hl
 | succ d =>
  simp only [freezeA] at h
  split at h
  ·cases h;exact hl
  ·split at h
   ·split at h
    ·obtain ⟨rows,_,rfl⟩:=Option.map_eq_some_iff.1 h;rfl
    ·cases h
   ·split at h
    ·obtain ⟨rows,_,rfl⟩:=Option.map_eq_some_iff.1 h;rfl
    ·cases h
   ·simp [AV.leaf] at hl
   ·simp [AV.leaf] at hl
   ·obtain ⟨rows,_,rfl⟩:=Option.map_eq_some_iff.1 h;rfl
   ·cases h
theorem notLive_cut (hH:HR N φ H w) {b k:Nat} {L:Loc} (hL:φ b=some L) (hk:k≤b):NotLive (cutLoc φ k) L.cb:=by
 refine ⟨fun b' L' hL' e=>?_,hH.resn b L hL⟩
 simp only [cutLoc] at hL'
 split at hL'
 ·rename_i hlt
  have:=hH.inj b' b L' L hL' hL e
  omega
 ·cases hL'
theorem freeze_sound (hH:HR N φ H w) {k:Nat}:∀(d:Nat) {v v':AV} {V:Value},freezeA H k d v=some v'→RV φ H.length w v V→RV (cutLoc φ k) k w v' V
 | 0,v,v',V,h,hv=>by
  simp only [freezeA] at h
  split at h<;>cases h
  rename_i hc
  exact hv.cut (closed_bnd _ hc)
 | d+1,v,v',V,h,hv=>by
  simp only [freezeA] at h
  split at h
  ·rename_i hc;cases h;exact hv.cut (closed_bnd _ hc)
  ·split at h
   ·rename_i b g esz lo len _
    split at h
    ·rename_i hkb
     obtain ⟨rows',hr,rfl⟩:=Option.map_eq_some_iff.1 h
     obtain ⟨rows,hr1,hr2⟩:=Option.bind_eq_some_iff.1 hr
     simp only [rowsOf] at hr1
     split at hr1
     ·rename_i esz' g' rs hblk
      split at hr1
      ·rename_i hc
       obtain ⟨rfl,rfl,hle⟩:=hc
       cases hr1
       obtain ⟨L,cs,T,fr,h1,h2,h3,h4,h5,h6⟩:=hH.rows _ _ _ _ hblk
       cases hv with
       | sl hb hcap hh =>
        rename_i cap a
        have ha:=((hh L h1).2 h2.symm).1
        subst ha
        have hnl:=notLive_cut hH h1 hkb
        have hlen:((rs.drop lo).take len).length=len:=by simp;omega
        have hcell:rows'.length=len∧∀(i:Nat) (row':List AV),rows'[i]?=some row'→row'.length=esz∧∀(j:Nat) (u:AV),row'[j]?=some u→u.leaf=true∧∃U,cs[(lo+i)*esz+j]?=some U∧RV (cutLoc φ k) k w u U:=by
         have hrow:∀(i:Nat) (row:List AV),((rs.drop lo).take len)[i]?=some row→rs[lo+i]?=some row:=by
          intro i row hi
          rw [List.getElem?_take] at hi
          split at hi
          ·rwa [List.getElem?_drop] at hi
          ·cases hi
         split at hr2
         ·rename_i hcl
          cases hr2
          refine ⟨hlen,fun i row hi=>?_⟩
          obtain ⟨h7,h8⟩:=h6.2 _ row (hrow i row hi)
          refine ⟨h7,fun j u hj=>?_⟩
          obtain ⟨h9,U,h10,h11⟩:=h8 j u hj
          exact ⟨h9,U,h10,h11.cut (closedss_bnd _ hcl i row hi j u hj)⟩
         ·obtain ⟨m1,m2⟩:=mapM_get hr2
          refine ⟨by rw [m1,hlen],fun i row' hi=>?_⟩
          obtain ⟨row,hri,hrm⟩:=m2 i row' hi
          obtain ⟨p1,p2⟩:=mapM_get hrm
          obtain ⟨h7,h8⟩:=h6.2 _ row (hrow i row hri)
          refine ⟨by rw [p1,h7],fun j u hj=>?_⟩
          obtain ⟨x,hx,hf⟩:=p2 j u hj
          obtain ⟨h9,U,h10,h11⟩:=h8 j x hx
          exact ⟨freeze_leaf hf h9,U,h10,freeze_sound hH d hf h11⟩
        obtain ⟨c1,c2⟩:=hcell
        refine .lst (fun i j=>(cs[(lo+i)*esz+j]?).getD Go.undef) esz c1.symm hcap (by simp) (fun _=>⟨L.cb,lo*esz,rfl,fun i row hi=>⟨(c2 i row hi).1,fun j u hj=>?_⟩⟩) (fun i row hi j u hj=>?_)
        ·obtain ⟨h9,U,h10,_⟩:=(c2 i row hi).2 j u hj
         refine ⟨h9,hnl,?_⟩
         unfold World.cell?
         simp only [h3,Option.isSome_none,Bool.false_eq_true,if_false,h10,Option.getD_some]
         rw [←Nat.add_mul];exact h10
        ·obtain ⟨_,U,h10,h11⟩:=(c2 i row hi).2 j u hj
         simp only [h10,Option.getD_some]
         exact h11
      ·cases hr1
     ·cases hr1
    ·cases h
   ·rename_i b g esz i0 off len _
    split at h
    ·rename_i hkb
     obtain ⟨rows',hr,rfl⟩:=Option.map_eq_some_iff.1 h
     obtain ⟨rows,hr1,hr2⟩:=Option.bind_eq_some_iff.1 hr
     split at hr2
     ·rename_i hcl
      cases hr2
      have hrd:=rowsOf_sound hH hv hr1
      cases hv with
      | asl hb hcap hh =>
       rename_i cap a
       obtain ⟨base,cap',he,hcap',hc⟩:=hrd
       cases he
       simp only [rowsOf] at hr1
       split at hr1
       ·rename_i esz' g' rs hblk
        obtain ⟨L,cs,T,fr,h1,h2,h3,h4,h5,h6⟩:=hH.rows _ _ _ _ hblk
        split at hr1
        ·rename_i hg
         obtain ⟨rfl,rfl⟩:=hg
         have ha:=(hh L h1).2 h2.symm
         subst ha
         have hnl:=notLive_cut hH h1 hkb
         by_cases hne:rows'=[]
         ·subst hne
          exact RV.empty _ _ _ (by simp)
         ·obtain ⟨a,esz2,e1,e2,e3⟩:=hc hne
          cases e1
          refine .lst (fun i j=>(w.cell? ⟨L.cb,i0*esz+off+i*esz2+j,none⟩).getD Go.undef) esz2 rfl hcap' (by simp) (fun _=>⟨L.cb,_,rfl,fun i row hi=>⟨(e3 i row hi).1,fun j u hj=>?_⟩⟩) (fun i row hi j u hj=>?_)
          ·obtain ⟨h9,U,h10,_⟩:=(e3 i row hi).2 j u hj
           exact ⟨h9,hnl,by simp only at h10;simp [h10]⟩
          ·obtain ⟨_,U,h10,h11⟩:=(e3 i row hi).2 j u hj
           simp only at h10
           simp only [h10,Option.getD_some]
           exact h11.cut (closedss_bnd _ hcl i row hi j u hj)
        ·cases hr1
       ·cases hr1
     ·cases hr2
    ·cases h
   ·obtain ⟨cs',hm,rfl⟩:=Option.map_eq_some_iff.1 h
    obtain ⟨m1,m2⟩:=mapM_get hm
    cases hv with
    | agg hl hf hh =>
     refine .agg (by rw [hl,m1]) (fun j u hj=>?_) (fun j u U hj hU=>?_)
     ·obtain ⟨x,hx,hfx⟩:=m2 j u hj
      exact freeze_leaf hfx (hf j x hx)
     ·obtain ⟨x,hx,hfx⟩:=m2 j u hj
      exact freeze_sound hH d hfx (hh j x U hx hU)
   ·obtain ⟨cs',hm,rfl⟩:=Option.map_eq_some_iff.1 h
    obtain ⟨m1,m2⟩:=mapM_get hm
    cases hv with
    | tup hl hh =>
     refine .tup (by rw [hl,m1]) (fun j u U hj hU=>?_)
     obtain ⟨x,hx,hfx⟩:=m2 j u hj
     exact freeze_sound hH d hfx (hh j x U hx hU)
   ·obtain ⟨rows',hm,rfl⟩:=Option.map_eq_some_iff.1 h
    obtain ⟨m1,m2⟩:=mapM_get hm
    cases hv with
    | lst Vs esz hlen hcap he hb hr =>
     refine .lst Vs esz (by rw [hlen,m1]) hcap he (fun hne=>?_) (fun i row' hi j u hj=>?_)
     ·obtain ⟨cb,off,h1,h2⟩:=hb fun e0=>hne (by subst e0;exact List.length_eq_zero_iff.1 m1)
      refine ⟨cb,off,h1,fun i row' hi=>?_⟩
      obtain ⟨row,hri,hrm⟩:=m2 i row' hi
      obtain ⟨p1,p2⟩:=mapM_get hrm
      refine ⟨by rw [p1];exact (h2 i row hri).1,fun j u hj=>?_⟩
      obtain ⟨x,hx,hfx⟩:=p2 j u hj
      obtain ⟨h3,h4,h5⟩:=(h2 i row hri).2 j x hx
      exact ⟨freeze_leaf hfx h3,h4.cut,h5⟩
     ·obtain ⟨row,hri,hrm⟩:=m2 i row' hi
      obtain ⟨p1,p2⟩:=mapM_get hrm
      obtain ⟨x,hx,hfx⟩:=p2 j u hj
      exact freeze_sound hH d hfx (hr i row hri j x hx)
   ·cases h
theorem HR.cut (h:HR N φ H w) (h':HR N φ' H' w') (hlow:∀b,b<H.length→H'[b]?=H[b]?):HR N (cutLoc φ' H.length) H w':={
 low:=h'.low
 kept:=fun cb c T fr hc=>by
  obtain ⟨h1,h2⟩:=h'.kept cb c T fr hc
  refine ⟨h1,fun b L hL=>?_,h2.2⟩
  simp only [cutLoc] at hL
  split at hL
  ·exact h2.1 b L hL
  ·cases hL
 dead b hb:=by
  simp only [cutLoc]
  split
  ·rename_i hlt;exact h'.dead b (by rw [hlow b hlt];exact hb)
  ·rfl
 base b L hL:=by
  simp only [cutLoc] at hL
  split at hL
  ·exact h'.base b L hL
  ·cases hL
 inj b b' L L' hL hL' e:=by
  simp only [cutLoc] at hL hL'
  split at hL
  ·split at hL'
   ·exact h'.inj b b' L L' hL hL' e
   ·cases hL'
  ·cases hL
 resn b L hL:=by
  simp only [cutLoc] at hL
  split at hL
  ·exact h'.resn b L hL
  ·cases hL
 ress:=h'.ress
 rows b esz g rs hb:=by
  have hlt:=lt_of_get hb
  obtain ⟨L,cs,T,fr,h1,h2,h3,h4,h5,h6⟩:=h'.rows b esz g rs (by rw [hlow b hlt];exact hb)
  obtain ⟨_,cs0,_,_,_,_,_,_,_,h60⟩:=h.rows b esz g rs hb
  refine ⟨L,cs,T,fr,by simp [cutLoc,hlt,h1],h2,h3,h4,h5,h6.1,fun i row hi=>⟨(h6.2 i row hi).1,fun j v hj=>?_⟩⟩
  obtain ⟨a,V,b,c⟩:=(h6.2 i row hi).2 j v hj
  obtain ⟨_,V0,_,c0⟩:=(h60.2 i row hi).2 j v hj
  exact ⟨a,V,b,c.cut c0.bnd⟩
 map b es hb:=by
  have hlt:=lt_of_get hb
  obtain ⟨L,ents,clock,h1,h2,h3,h4⟩:=h'.map b es (by rw [hlow b hlt];exact hb)
  obtain ⟨_,ents0,_,_,_,_,h40⟩:=h.map b es hb
  refine ⟨L,ents,clock,by simp [cutLoc,hlt,h1],h2,h3,h4.1,fun i k v hi=>?_,h4.2.2⟩
  obtain ⟨e,a,b,c⟩:=h4.2.1 i k v hi
  obtain ⟨e0,_,b0,c0⟩:=h40.2.1 i k v hi
  exact ⟨e,a,b.cut b0.bnd,c.cut c0.bnd⟩
 loop b ready pend slots ps assign body hb:=by
  have hlt:=lt_of_get hb
  obtain ⟨L,r,h1,h2,h3,h4,h5,h6,h7,h8,h9⟩:=h'.loop b _ _ _ _ _ _ (by rw [hlow b hlt];exact hb)
  obtain ⟨_,r0,_,_,_,_,_,_,_,_,h90⟩:=h.loop b _ _ _ _ _ _ hb
  refine ⟨L,r,by simp [cutLoc,hlt,h1],h2,h3,h4,h5,h6,h7,h8,h9.1,fun t v ht=>?_⟩
  obtain ⟨V,a,b⟩:=h9.2 t v ht
  obtain ⟨_,_,b0⟩:=h90.2 t v ht
  exact ⟨V,a,b.cut b0.bnd⟩
 it b m k st hb:=by
  have hlt:=lt_of_get hb
  obtain ⟨L,M,h1,h2,h3,h4⟩:=h'.it b _ _ _ (by rw [hlow b hlt];exact hb)
  obtain ⟨_,_,_,_,_,h40⟩:=h.it b _ _ _ hb
  exact ⟨L,M,by simp [cutLoc,hlt,h1],h2,h3,h4.cut h40.bnd⟩ }
theorem Ext.cut {k n':Nat} (h:Ext φ k w φ' n' w'):Ext φ k w (cutLoc φ' k) k w':={
 env:=h.env
 le:=Nat.le_refl _
 size:=h.size
 loc b hb L' hL:=by
  simp only [cutLoc,hb,if_true] at hL
  exact h.loc b hb L' hL
 same:=h.same
 nolive cb hc hn:=(h.nolive cb hc hn).cut
 loops:=h.loops
 res:=h.res
 keep:=h.keep }
mutual
theorem RV.flat {φ':Phi} {n':Nat} {w':World}:∀{v:AV} {V:Value},RV φ n w v V→v.flat=true→RV φ' n' w' v V
 | _,_,.undef V,h=>by simp [AV.flat] at h
 | _,_,.bool b,_=>.bool b
 | _,_,.int k i,_=>.int k i
 | _,_,.str l,_=>.str l
 | _,_,.nilp,_=>.nilp
 | _,_,.ptr ..,h=>by simp [AV.flat] at h
 | _,_,.eptr ..,h=>by simp [AV.flat] at h
 | _,_,.lst ..,h=>by simp [AV.flat] at h
 | _,_,.nils,_=>.nils
 | _,_,.sl ..,h=>by simp [AV.flat] at h
 | _,_,.asl ..,h=>by simp [AV.flat] at h
 | _,_,.nilm,_=>.nilm
 | _,_,.map ..,h=>by simp [AV.flat] at h
 | _,_,.nilf,_=>.nilf
 | _,_,.fn ..,h=>by simp [AV.flat] at h
 | _,_,.yld ..,h=>by simp [AV.flat] at h
 | _,_,.agg hl hf hc,h=>.agg hl hf fun j v V hj hV=>(hc j v V hj hV).flat (flats_at (by simpa [AV.flat] using h) hj)
 | _,_,.tup hl hc,h=>.tup hl fun j v V hj hV=>(hc j v V hj hV).flat (flats_at (by simpa [AV.flat] using h) hj)
theorem flats_at:∀{l:List AV} {j:Nat} {v:AV},AV.flats l=true→l[j]?=some v→v.flat=true
 | [],_,_,_,hj=>by simp at hj
 | a::l,0,v,h,hj=>by simp at hj;subst hj;simp [AV.flats] at h;exact h.1
 | a::l,j+1,v,h,hj=>by simp at hj;simp [AV.flats] at h;exact flats_at h.2 hj
end
end Go.Proofs.Ev
namespace Go.Proofs.Ev
open Go.RowKit
variable {P:Program} {C:Cfg} {N:Low} {φ φ':Phi} {H H':Heap} {w w':World} {n:Nat}
def AExit.toExit:AExit→Exit
 | .normal=>.normal
 | .exit id=>.exit id
 | .ret=>.ret
structure Cfg.Sound (C:Cfg) (P:Program) (N:Low):Prop where
 fits:C.Fits P
 mixed:P.follows .mixedOrders=true
 tag:TagOK P N
 names:∀(f:Nat) (fn:Func),P.funcs[f]?=some fn→fn.body.isSome=true→(fn.name== "runtime.NumGoroutine")=false
 prim:∀f p,C.prim f=some p→(∃fn:Func,P.funcs[f]?=some fn∧fn.body.isSome=true)∧∀base args H v H',p base args H=some (v,H')→∀φ w (Vs:Array Value),base≤H.length→HR N φ H w→Two (fun v V=>RV φ H.length w v V) args Vs.toList→
  CallsIn (Fw none) 0 P f Vs w fun e w'=>∃V φ',e=.returned V∧RV φ' H'.length w' v V∧HR N φ' H' w'∧Ext φ H.length w φ' H'.length w'∧∀b,b<base→H'[b]?=H[b]?
def RoundOK (r:Option Nat) (w:World):Prop:=∀l,r=some l→∃rec,w.heap[l]?=some (.loop rec)
theorem RoundOK.mono {n':Nat} {r:Option Nat} (h:RoundOK r w) (hx:Ext φ n w φ' n' w'):RoundOK r w':=fun l hl=>by
 obtain ⟨rec,h1⟩:=h l hl
 exact hx.loops l rec h1
def CodeOK (P:Program) (C:Cfg) (N:Low) (k:Nat):Prop :=
 ∀base c s H e s' H',codeA P C k base c s H=some (e,s',H')→∀{φ w} {a:Act} {r B},base≤H.length→HR N φ H w→SlotsAt φ H.length w s a.tmps→Marks B φ w a.defers→B≤w.heap.size→RoundOK r w→
  ∀Q:Exit→Act→World→Prop,(∀a' w' φ',HR N φ' H' w'→Ext φ H.length w φ' H'.length w'→SlotsAt φ' H'.length w' s' a'.tmps→Marks B φ' w' a'.defers→(∀b,b<base→H'[b]?=H[b]?)→Q e.toExit a' w')→c.wpIn (Fw r) 0 P Q a w
def SeqOK (P:Program) (C:Cfg) (N:Low) (k:Nat):Prop :=
 ∀base ops l s H s' H',seqA P C k base ops l s H=some (s',H')→∀{φ w} {a:Act} {r B} (is:List Nat),is.map (fun i=>ops[i]?)=l.map some→base≤H.length→HR N φ H w→SlotsAt φ H.length w s a.tmps→Marks B φ w a.defers→B≤w.heap.size→RoundOK r w→
  ∀Q:Exit→Act→World→Prop,(∀a' w' φ',HR N φ' H' w'→Ext φ H.length w φ' H'.length w'→SlotsAt φ' H'.length w' s' a'.tmps→Marks B φ' w' a'.defers→(∀b,b<base→H'[b]?=H[b]?)→Q .normal a' w')→wpOpsIn (Fw r) 0 P ops Q is a w
def StepOK (P:Program) (C:Cfg) (N:Low) (k:Nat):Prop :=
 ∀base ops o s H v H',stepA P C k base ops o s H=some (v,H')→∀{φ w} {a:Act} {r},base≤H.length→HR N φ H w→SlotsAt φ H.length w s a.tmps→RoundOK r w→
  ∀(next:Act→World→Prop) (Q:Exit→Act→World→Prop),(∀V w' φ',RV φ' H'.length w' v V→HR N φ' H' w'→Ext φ H.length w φ' H'.length w'→(∀b,b<base→H'[b]?=H[b]?)→next (a.put o.dst V) w')→
  if Region.wanted o (yielded ops a.tmps) then o.wpIn (Fw r) 0 P a w next Q else (∀f,o.about P w a.eval=some f→(Fw r).fn f)∧next (a.put o.dst Go.undef) w
def CallOK (P:Program) (C:Cfg) (N:Low) (k:Nat):Prop :=
 ∀base f args H v H',callA P C k base f args H=some (v,H')→∀{φ w} {a:Act} {r} {F:Value} {Vs:Array Value},base≤H.length→HR N φ H w→RV φ H.length w f F→Two (fun v V=>RV φ H.length w v V) args Vs.toList→
  ∀(o:Oper) (next:Act→World→Prop) (Q:Exit→Act→World→Prop),(∀V w' φ',RV φ' H'.length w' v V→HR N φ' H' w'→Ext φ H.length w φ' H'.length w'→(∀b,b<base→H'[b]?=H[b]?)→next (a.put o.dst V) w')→
  o.uponIn (Fw r) 0 P a next Q ((do let d ←Deferred.ofValue F Vs;invoke d.target d.args:Sem Next).run P w)
def FuncOK (P:Program) (C:Cfg) (N:Low) (k:Nat):Prop :=
 ∀base f args H v H',funcA P C k base f args H=some (v,H')→(∀args w,(callFunc f args).run P w=.ok (.enter f args) w)∧∀{φ w} {Vs:Array Value},base≤H.length→HR N φ H w→Two (fun v V=>RV φ H.length w v V) args Vs.toList→
  CallsIn (Fw none) 0 P f Vs w fun e w'=>∃V φ',e=.returned V∧RV φ' H'.length w' v V∧HR N φ' H' w'∧Ext φ H.length w φ' H'.length w'∧∀b,b<base→H'[b]?=H[b]?
theorem wanted_sound {ops:Array Oper} {s:List AV} {tmps:Array Value} (hs:SlotsAt φ n w s tmps) {o:Oper} {b:Bool} (h:wantedA ops s o=some b):Region.wanted o (yielded ops tmps)=b:=by
 unfold wantedA at h
 unfold Region.wanted
 cases hg:o.guard with
 | none=>rw [hg] at h;simp at h;rw [h]
 | some jw =>
  obtain ⟨j,want⟩:=jw
  rw [hg] at h
  simp only at h ⊢
  unfold yielded
  cases hd:(ops[j]?).bind (·.dst) with
  | none=>rw [hd] at h;simp at h;subst h;rfl
  | some d =>
   rw [hd] at h
   simp only at h
   cases hsd:s[d]? with
   | none =>
    rw [hsd] at h;simp at h;subst h
    have:tmps[d]?=none:=by
     rw [Array.getElem?_eq_none];rw [hs.1]
     rcases Nat.lt_or_ge d s.length with h1 | h1
     ·rw [List.getElem?_eq_getElem h1] at hsd;cases hsd
     ·exact h1
    simp [this]
   | some v =>
    obtain ⟨V,h1,h2⟩:=hs.2 d v hsd
    rw [hsd] at h
    simp only [Option.bind_some,h1]
    cases h2<;>simp at h<;>subst h<;>simp
theorem put_slots {s:List AV} {a:Act} (hs:SlotsAt φ n w s a.tmps) {dst:Option Tmp} {v:AV} {V:Value} (hv:RV φ n w v V):SlotsAt φ n w (putA s dst v) (a.put dst V).tmps:=by
 cases dst with
 | none=>exact hs
 | some d =>
  refine ⟨by simp [Act.put,putA,hs.1],fun t u ht=>?_⟩
  simp only [putA] at ht
  simp only [Act.put]
  by_cases e:d=t
  ·subst e
   have hd:d<s.length:=by
    have:=lt_of_get ht
    simpa using this
   rw [List.getElem?_set_self hd] at ht
   cases ht
   exact ⟨V,by rw [Array.getElem?_setIfInBounds_self_of_lt (by rw [hs.1];exact hd)],hv⟩
  ·rw [List.getElem?_set_ne e] at ht
   obtain ⟨U,h1,h2⟩:=hs.2 t u ht
   exact ⟨U,by rw [Array.getElem?_setIfInBounds_ne e];exact h1,h2⟩
theorem put_defers (a:Act) (dst:Option Tmp) (V:Value):(a.put dst V).defers=a.defers:=by cases dst<;>rfl
theorem seq_ok {k:Nat} (hstep:StepOK P C N k) (hseq:SeqOK P C N k):SeqOK P C N (k+1):=by
 intro base ops l s H s' H' h φ w a r B is his hbase hH hs hm hB hr Q hQ
 cases l with
 | nil =>
  simp only [seqA,Option.some.injEq,Prod.mk.injEq] at h
  obtain ⟨rfl,rfl⟩:=h
  cases is with
  | cons i is=>simp at his
  | nil=>exact hQ a w φ hH .refl hs hm (fun _ _=>rfl)
 | cons o rest =>
  simp only [seqA] at h
  cases hst:stepA P C k base ops o s H with
  | none=>rw [hst] at h;cases h
  | some vh =>
   obtain ⟨v,H1⟩:=vh
   rw [hst] at h
   cases is with
   | nil=>simp at his
   | cons i is =>
    simp only [List.map_cons,List.cons.injEq] at his
    obtain ⟨hi,his⟩:=his
    have hlen:=fun φ' w' (hx:Ext φ H.length w φ' H1.length w')=>Nat.le_trans hbase hx.le
    have key:=hstep base ops o s H v H1 hst hbase hH hs hr (wpOpsIn (Fw r) 0 P ops Q is) Q (fun V w1 φ1 hv h1 hx hlow =>
     hseq base ops rest _ H1 s' H' h (a:=a.put o.dst V) (B:=B) is his (Nat.le_trans hbase hx.le) h1 (put_slots (hs.mono hx) hv) (by rw [put_defers];exact hm.mono hx) (Nat.le_trans hB hx.size) (hr.mono hx) Q
      (fun a' w' φ' h2 hx2 hs2 hm2 hl2=>hQ a' w' φ' h2 (hx.trans hx2) hs2 hm2 (fun b hb=>(hl2 b hb).trans (hlow b hb))))
    simp only [wpOpsIn,hi]
    exact key
theorem step_ok {k:Nat} (hS:C.Sound P N) (hcall:CallOK P C N k):StepOK P C N (k+1):=by
 intro base ops o s H v H' h φ w a r hbase hH hs hr next Q hn
 simp only [stepA] at h
 cases hw:wantedA ops s o with
 | none=>rw [hw] at h;cases h
 | some b =>
  rw [hw] at h
  rw [wanted_sound hs hw]
  cases b with
  | false =>
   simp only [Option.some.injEq,Prod.mk.injEq] at h
   obtain ⟨rfl,rfl⟩:=h
   rw [if_neg (by simp)]
   exact ⟨fun _ _=>trivial,hn Go.undef w φ (.tup rfl (fun j v V hj=>by simp at hj)) hH .refl (fun _ _=>rfl)⟩
  | true =>
   rw [if_pos rfl]
   refine ⟨fun _ _=>trivial,?_⟩
   simp only at h
   split at h
   ·rename_i f args ats ho
    have hsem:o.semAt (Fw r).round a.eval=execOp a.eval o:=Oper.semAt_eq _ _ _ (by rw [ho];simp)
    rw [hsem]
    have hex:execOp a.eval o=(do let d ←Deferred.ofValue (a.eval f) (args.map a.eval);invoke d.target d.args):=by
     unfold execOp;rw [ho];rfl
    rw [hex]
    refine hcall base _ _ H v H' h hbase hH (operand_rel hs f) ?_ o next Q hn
    rw [Array.toList_map]
    exact Two.map (evalOperand s) a.eval (fun x=>operand_rel hs x) args.toList
   ·have hnd:∀c,o.op≠.defer c:=by
     intro c hc
     unfold opA at h
     rw [hc] at h
     cases h
    have hsem:o.semAt (Fw r).round a.eval=execOp a.eval o:=Oper.semAt_eq _ _ _ hnd
    rw [hsem]
    obtain ⟨V,w',φ',hrun,hv,h1,hx,hlow⟩:=opA_sound hS.fits hS.tag hH hbase hs o h
    rcases hrun with e | ⟨e,rfl⟩
    ·rw [e];exact hn V w' φ' hv h1 hx hlow
    ·rw [e];exact hn _ w' φ' hv h1 hx hlow
end Go.Proofs.Ev
namespace Go.Proofs.Ev
open Go.RowKit
variable {P:Program} {C:Cfg}
mutual
theorem beq_eq:∀a b:AV,AV.beq a b=true→a=b
 | .eptr a,b,h=>by cases b<;>simp [AV.beq] at h;rw [beqs_eq _ _ h]
 | .lst a x,b,h=>by cases b<;>simp [AV.beq] at h;rw [beqss_eq _ _ h.1,h.2]
 | .fn f a,b,h=>by cases b<;>simp [AV.beq] at h;rw [beqs_eq _ _ h.2,h.1]
 | .agg a,b,h=>by cases b<;>simp [AV.beq] at h;rw [beqs_eq _ _ h]
 | .tup a,b,h=>by cases b<;>simp [AV.beq] at h;rw [beqs_eq _ _ h]
 | .undef,b,h=>by cases b<;>simp [AV.beq] at h;rfl
 | .bool a,b,h=>by cases b<;>simp [AV.beq] at h;rw [h]
 | .int j a,b,h=>by cases b<;>simp [AV.beq] at h;rw [h.1,h.2]
 | .str a,b,h=>by cases b<;>simp [AV.beq] at h;rw [h]
 | .nilp,b,h=>by cases b<;>simp [AV.beq] at h;rfl
 | .ptr ..,b,h=>by cases b<;>simp [AV.beq] at h;obtain ⟨⟨⟨⟨rfl,rfl⟩,rfl⟩,rfl⟩,rfl⟩:=h;rfl
 | .sl ..,b,h=>by cases b<;>simp [AV.beq] at h;obtain ⟨⟨⟨⟨rfl,rfl⟩,rfl⟩,rfl⟩,rfl⟩:=h;rfl
 | .asl ..,b,h=>by cases b<;>simp [AV.beq] at h;obtain ⟨⟨⟨⟨⟨rfl,rfl⟩,rfl⟩,rfl⟩,rfl⟩,rfl⟩:=h;rfl
 | .nilm,b,h=>by cases b<;>simp [AV.beq] at h;rfl
 | .nils,b,h=>by cases b<;>simp [AV.beq] at h;rfl
 | .map a,b,h=>by cases b<;>simp [AV.beq] at h;rw [h]
 | .nilf,b,h=>by cases b<;>simp [AV.beq] at h;rfl
 | .yld a,b,h=>by cases b<;>simp [AV.beq] at h;rw [h]
theorem beqs_eq:∀a b:List AV,AV.beqs a b=true→a=b
 | [],b,h=>by cases b<;>simp [AV.beqs] at h;rfl
 | x::l,b,h=>by
  cases b with
  | nil=>simp [AV.beqs] at h
  | cons y m=>simp [AV.beqs] at h;rw [beq_eq _ _ h.1,beqs_eq _ _ h.2]
theorem beqss_eq:∀a b:List (List AV),AV.beqss a b=true→a=b
 | [],b,h=>by cases b<;>simp [AV.beqss] at h;rfl
 | x::l,b,h=>by
  cases b with
  | nil=>simp [AV.beqss] at h
  | cons y m=>simp [AV.beqss] at h;rw [beqs_eq _ _ h.1,beqss_eq _ _ h.2]
end
inductive Waits (ops:Array Oper):Nat→Nat→Prop
 | one {i:Nat} {o:Oper} {e:Edge} (ho:ops[i]?=some o) (he:e∈o.after) (hb:Region.binds .any e=true):Waits ops e.on i
 | more {k i:Nat} {o:Oper} {e:Edge} (ho:ops[i]?=some o) (he:e∈o.after) (hb:Region.binds .any e=true) (h:Waits ops k e.on):Waits ops k i
theorem bits_fold (acc:List Nat) (k:Nat):∀(l:List Edge) (m:Nat),(l.foldl (fun m e=>if Region.binds .any e then (m ||| 2^e.on) ||| acc.getD e.on 0 else m) m).testBit k=true→
 m.testBit k=true∨∃e∈l,Region.binds .any e=true∧(e.on=k∨(acc.getD e.on 0).testBit k=true)
 | [],m,h=>.inl h
 | e::l,m,h=>by
  rw [List.foldl_cons] at h
  rcases bits_fold acc k l _ h with h1 | ⟨e',h1,h2⟩
  ·split at h1
   ·rename_i hb
    rw [Nat.testBit_or,Nat.testBit_or,Nat.testBit_two_pow] at h1
    simp only [Bool.or_eq_true,decide_eq_true_eq] at h1
    rcases h1 with (h1 | h1) | h1
    ·exact .inl h1
    ·exact .inr ⟨e,by simp,hb,.inl h1⟩
    ·exact .inr ⟨e,by simp,hb,.inr h1⟩
   ·exact .inl h1
  ·exact .inr ⟨e',by simp [h1],h2⟩
theorem befGo_spec {ops:Array Oper}:∀(l:List Oper) (acc:List Nat),l=ops.toList.drop acc.length→(∀j k,(acc.getD j 0).testBit k=true→Waits ops k j)→
 ∀j k,((befGo l acc).getD j 0).testBit k=true→Waits ops k j
 | [],acc,_,h=>h
 | o::l,acc,hl,h=>by
  unfold befGo
  have ho:ops[acc.length]?=some o:=by
   rw [←Array.getElem?_toList,←Nat.add_zero acc.length,←List.getElem?_drop,←hl];rfl
  refine befGo_spec l _ (by rw [List.length_append,←List.drop_drop,←hl];rfl) fun j k hjk=>?_
  rcases Nat.lt_trichotomy j acc.length with h1 | h1 | h1
  ·rw [List.getD_eq_getElem?_getD,List.getElem?_append_left h1,←List.getD_eq_getElem?_getD] at hjk;exact h j k hjk
  ·subst h1
   simp only [List.getD_eq_getElem?_getD,List.getElem?_append_right (Nat.le_refl _),Nat.sub_self,List.getElem?_cons_zero,Option.getD_some] at hjk
   rcases bits_fold acc k o.after.toList 0 (by simpa only [List.getD_eq_getElem?_getD] using hjk) with h2 | ⟨e,h2,h3,h4⟩
   ·rw [Nat.zero_testBit] at h2;cases h2
   ·rcases h4 with rfl | h4
    ·exact .one ho (by simpa using h2) h3
    ·exact .more ho (by simpa using h2) h3 (h _ _ h4)
  ·rw [List.getD_eq_getElem?_getD,List.getElem?_eq_none (by simp;omega)] at hjk
   simp at hjk
theorem cutS_fold {s:List AV}:∀(l:List Tmp) (m:List AV) (R:Tmp→Prop),m.length=s.length→(∀t x,m[t]?=some x→x=.undef∨(R t∧s[t]?=some x))→(∀t∈l,R t)→
 (l.foldl (fun m t=>m.set t (s.getD t .undef)) m).length=s.length∧∀t x,(l.foldl (fun m t=>m.set t (s.getD t .undef)) m)[t]?=some x→x=.undef∨(R t∧s[t]?=some x)
 | [],m,R,h1,h2,_=>⟨h1,h2⟩
 | d::l,m,R,h1,h2,h3=>by
  rw [List.foldl_cons]
  refine cutS_fold l _ R (by simpa using h1) (fun t x hx=>?_) (fun t ht=>h3 t (by simp [ht]))
  by_cases e:d=t
  ·subst e
   have hd:d<m.length:=by have:=(List.getElem?_eq_some_iff.1 hx).1;simpa using this
   rw [List.getElem?_set_self hd] at hx
   cases hx
   refine .inr ⟨h3 d (by simp),?_⟩
   rw [List.getD_eq_getElem?_getD,List.getElem?_eq_getElem (by rw [←h1];exact hd)];rfl
  ·rw [List.getElem?_set_ne e] at hx
   exact h2 t x hx
theorem cutS_spec (l:List Tmp) (s:List AV):(cutS l s).length=s.length∧∀t x,(cutS l s)[t]?=some x→x=.undef∨(t∈l∧s[t]?=some x):=by
 refine cutS_fold l _ (·∈l) (by simp) (fun t x hx=>.inl ?_) (fun t h=>h)
 rw [List.getElem?_replicate] at hx
 split at hx
 ·cases hx;rfl
 ·cases hx
def clsA (P:Program) (ops:Array Oper) (s:List AV) (o:Oper):Nat:=match wantedA ops s o with | some true=>kindA P o.op | _=>0
theorem runT_spec {ops:Array Oper} {step:Oper→List AV→Heap→Option (AV×Heap)}:∀(l:List Oper) (s:List AV) (H:Heap) (tr:List Tr) (s':List AV) (H':Heap),runT P ops step l s H=some (tr,s',H')→
 tr.length=l.length∧∃(S:Nat→List AV) (Hp:Nat→Heap),S 0=s∧Hp 0=H∧S l.length=s'∧Hp l.length=H'∧
  ∀(i:Nat) (o:Oper),l[i]?=some o→(tr.getD i default).s=cutS (looks ops o) (S i)∧(tr.getD i default).h=Hp i∧
   step o (cutS (looks ops o) (S i)) (Hp i)=some ((tr.getD i default).v,Hp (i+1))∧S (i+1)=putA (S i) o.dst (tr.getD i default).v∧
   (tr.getD i default).c=clsA P ops (cutS (looks ops o) (S i)) o
 | [],s,H,tr,s',H',h=>by
  simp only [runT,Option.some.injEq,Prod.mk.injEq] at h
  obtain ⟨rfl,rfl,rfl⟩:=h
  exact ⟨rfl,fun _=>s,fun _=>H,rfl,rfl,rfl,rfl,fun i o h=>by simp at h⟩
 | o::l,s,H,tr,s',H',h=>by
  simp only [runT] at h
  split at h
  ·rename_i v H1 hst
   split at h
   ·rename_i t s2 H2 hrt
    simp only [Option.some.injEq,Prod.mk.injEq] at h
    obtain ⟨rfl,rfl,rfl⟩:=h
    obtain ⟨h1,S,Hp,h2,h3,h4,h5,h6⟩:=runT_spec l _ _ _ _ _ hrt
    refine ⟨by simp [h1],fun i=>match i with | 0=>s | i+1=>S i,fun i=>match i with | 0=>H | i+1=>Hp i,rfl,rfl,h4,h5,fun i o' ho'=>?_⟩
    cases i with
    | zero =>
     simp only [List.getElem?_cons_zero,Option.some.injEq] at ho'
     subst ho'
     exact ⟨rfl,rfl,by simpa [h3] using hst,by simpa using h2,rfl⟩
    | succ i=>simpa using h6 i o' (by simpa using ho')
   ·cases h
  ·cases h
theorem retV_heap {H H':Heap} {x:Option AV} {v:AV} (h:retV H x=some (v,H')):H'=H:=by
 cases x with
 | none=>cases h
 | some x=>cases h;rfl
theorem retV_any {H H' H2:Heap} {x:Option AV} {v:AV} (h:retV H x=some (v,H')):retV H2 x=some (v,H2):=by
 cases x with
 | none=>cases h
 | some x=>cases h;rfl
theorem convertA_int {H H' H2:Heap} {s d:TypeId} {k:IntKind} {x v:AV} (hd:P.underlying d=some (.int k)) (h:convertA P H s d x=some (v,H')):convertA P H2 s d x=some (v,H2)∧H'=H:=by
 cases hs:P.underlying s with
 | none=>simp [convertA,hs,hd] at h
 | some ds=>cases x<;>cases ds<;>simp [convertA,hs,hd] at h ⊢<;>exact ⟨h.1,h.2.symm⟩
theorem convertA_str {H H':Heap} {s d:TypeId} {x v:AV} (hd:P.underlying d=some .string) (h:convertA P H s d x=some (v,H')):H'=H:=by
 unfold convertA at h
 rw [hd] at h
 split at h
 ·rename_i e;cases e
 ·cases h;rfl
 ·rename_i e;cases e
 ·split at h
  ·simp only [Option.map_eq_some_iff,Prod.mk.injEq] at h
   obtain ⟨_,_,_,h⟩:=h
   exact h.symm
  ·cases h
 ·cases h
theorem opA_kind0 {base:Nat} {H H' H2:Heap} {ρ:Operand→AV} {o:Oper} {v:AV} (h:opA P C base H ρ o=some (v,H')) (hk:kindA P o.op=0):opA P C base H2 ρ o=some (v,H2)∧H'=H:=by
 unfold opA at h ⊢
 cases ho:o.op
 case makeFunc f first captured =>
  rw [ho] at h
  cases f with
  | func f =>
   change (if first.isEmpty=true then some (AV.fn f (List.map ρ captured.toList),H) else none)=some (v,H') at h
   change (if first.isEmpty=true then some (AV.fn f (List.map ρ captured.toList),H2) else none)=some (v,H2)∧_
   split at h
   ·rename_i hf;cases h;exact ⟨by rw [if_pos hf],rfl⟩
   ·cases h
  | _=>cases h
 case call c =>
  rw [ho] at hk
  obtain ⟨callee,args,argTypes⟩:=c
  cases callee with
  | builtin b=>cases b<;>cases hk
  | _=>cases hk
 case convert s d x =>
  rw [ho] at h hk
  simp only [kindA] at h hk ⊢
  split at hk
  ·rename_i k hd;exact convertA_int hd h
  ·cases hk
  ·cases hk
 case pick c a b =>
  rw [ho] at h
  simp only at h ⊢
  split at h
  ·rename_i hc;cases h;exact ⟨rfl,rfl⟩
  ·cases h
 case nilCheck x =>
  rw [ho] at h
  simp only at h ⊢
  split at h<;>first | cases h | skip
  all_goals exact ⟨rfl,rfl⟩
 case extract x i =>
  rw [ho] at h
  simp only at h ⊢
  split at h
  ·exact ⟨retV_any h,retV_heap h⟩
  ·cases h
 case alloc t =>
  rw [ho] at hk
  simp only [kindA] at hk
  split at hk<;>cases hk
 all_goals
  rw [ho] at h hk
  simp only [kindA] at h hk ⊢<;>first
  | (cases hk;done)
  | exact ⟨retV_any h,retV_heap h⟩
  | (cases h;exact ⟨rfl,rfl⟩)
theorem opA_kind1 {base:Nat} {H H':Heap} {ρ:Operand→AV} {o:Oper} {v:AV} (h:opA P C base H ρ o=some (v,H')) (hk:kindA P o.op=1):H'=H:=by
 unfold opA at h
 cases ho:o.op
 case makeFunc f first caps=>rw [ho] at hk;cases hk
 case alloc t =>
  rw [ho] at hk
  simp only [kindA] at hk
  split at hk<;>cases hk
 case call c =>
  rw [ho] at h hk
  obtain ⟨callee,args,argTypes⟩:=c
  cases callee with
  | builtin b =>
   cases b with
   | len =>
    change (match argTypes[0]?,args[0]? with | some t,some x=>retV H (lenA P H t (ρ x).denil) | _,_=>none)=some (v,H') at h
    split at h
    ·exact retV_heap h
    ·cases h
   | _=>cases hk
  | _=>cases hk
 case convert s d x =>
  rw [ho] at h hk
  simp only [kindA] at hk
  split at hk
  ·cases hk
  ·rename_i hd;exact convertA_str hd h
  ·cases hk
 all_goals
  rw [ho] at h hk
  simp only [kindA] at h hk<;>first
  | (cases hk;done)
  | exact retV_heap h
end Go.Proofs.Ev
namespace Go.Proofs.Ev
open Go.RowKit
variable {P:Program} {C:Cfg} {N:Low} {φ φ' φ'' ψ:Phi} {H H':Heap} {w w' w'':World} {n n' n'':Nat}
structure ExtR (φ:Phi) (n:Nat) (w:World) (φ':Phi) (n':Nat) (w':World):Prop where
 le:n≤n'
 size:w.heap.size≤w'.heap.size
 loc:∀b,b<n→∀L',φ' b=some L'→∃L,φ b=some L∧L.g≤L'.g∧(L.g=L'.g→L=L')
 same:∀cb o,w.heap[cb]?=some o→NotLive φ cb→w'.heap[cb]?=some o
 nolive:∀cb,cb<w.heap.size→NotLive φ cb→NotLive φ' cb
 loops:∀(cb:Nat) (r:Loop),w.heap[cb]?=some (Obj.loop r)→∃r':Loop,w'.heap[cb]?=some (Obj.loop r')
 keep:∀(cb:Nat) (o:Obj),φ.res cb→w.heap[cb]?=some o→w'.heap[cb]?=some o
 env:SameEnv w w'
theorem ExtR.toC (h:ExtR φ n w φ' n' w'):ExtC φ n w φ' n' w':=⟨h.le,h.size,h.loc,fun cb _ _ _ hc hn=>h.same cb _ hc hn,h.nolive⟩
theorem Ext.toR (h:Ext φ n w φ' n' w'):ExtR φ n w φ' n' w':=⟨h.le,h.size,h.loc,h.same,h.nolive,h.loops,h.keep,h.env⟩
theorem ExtR.toExt (h:ExtR φ n w φ' n' w') (hr:φ'.res=φ.res):Ext φ n w φ' n' w':=⟨h.le,h.size,h.loc,h.same,h.nolive,h.loops,hr,h.keep,h.env⟩
theorem ExtR.trans (h:ExtR φ n w φ' n' w') (h':ExtR φ' n' w' φ'' n'' w'') (hk:∀cb,φ.res cb→φ'.res cb):ExtR φ n w φ'' n'' w'':={
 le:=Nat.le_trans h.le h'.le
 size:=Nat.le_trans h.size h'.size
 loc b hb L'' hL:=by
  obtain ⟨L',h1,h2,h3⟩:=h'.loc b (Nat.lt_of_lt_of_le hb h.le) L'' hL
  obtain ⟨L,h4,h5,h6⟩:=h.loc b hb L' h1
  exact ⟨L,h4,Nat.le_trans h5 h2,fun e=>(h6 (by omega)).trans (h3 (by omega))⟩
 same cb o hc hn:=h'.same cb o (h.same cb o hc hn) (h.nolive cb (Array.getElem?_eq_some_iff.1 hc).1 hn)
 nolive cb hc hn:=h'.nolive cb (Nat.lt_of_lt_of_le hc h.size) (h.nolive cb hc hn)
 loops cb r h0:=by obtain ⟨r',h1⟩:=h.loops cb r h0;exact h'.loops cb r' h1
 keep cb o hr h0:=h'.keep cb o (hk cb hr) (h.keep cb o hr h0)
 env:=h.env.trans h'.env }
theorem Marks.monoR {B:Nat} (hx:ExtR φ n w φ' n' w') {ds:List Deferred} (h:Marks B φ w ds):Marks B φ' w' ds:=by
 induction h with
 | nil=>exact .nil
 | cons hB hk hn hne _ ih=>exact .cons hB (hx.same _ _ hk hn) (hx.nolive _ (Array.getElem?_eq_some_iff.1 hk).1 hn) hne ih
theorem RoundOK.monoR {r:Option Nat} (h:RoundOK r w) (hx:ExtR φ n w φ' n' w'):RoundOK r w':=fun l hl=>by
 obtain ⟨rec,h1⟩:=h l hl
 exact hx.loops l rec h1
def hold (φ:Phi) (cb:Nat):Phi:=⟨φ.loc,fun x=>φ.res x∨x=cb⟩
theorem ExtR.hold (o:Obj):ExtR φ n w (hold φ w.heap.size) n (w.alloc o):={
 env:=.refl
 le:=Nat.le_refl _
 size:=by simp
 loc b _ L' hL:=⟨L',hL,Nat.le_refl _,fun _=>rfl⟩
 same cb o' hc _:=(heap_alloc_old (Array.getElem?_eq_some_iff.1 hc).1).trans hc
 nolive cb hc hn:=⟨hn.1,fun h=>h.elim hn.2 (by omega)⟩
 loops cb r hc:=⟨r,(heap_alloc_old (Array.getElem?_eq_some_iff.1 hc).1).trans hc⟩
 keep cb o' _ hc:=(heap_alloc_old (Array.getElem?_eq_some_iff.1 hc).1).trans hc }
theorem HR.hold (h:HR N φ H w) (o:Obj):HR N (hold φ w.heap.size) H (w.alloc o):=by
 have hx:ExtC φ H.length w (Ev.hold φ w.heap.size) H.length (w.alloc o):=(ExtR.hold o).toC
 have hw:∀b L,φ b=some L→(w.alloc o).heap[L.cb]?=w.heap[L.cb]?:=fun b L hL=>heap_alloc_old (h.base b L hL).2
 refine ⟨Nat.le_trans h.low hx.size,h.kept.monoC hx,h.dead,fun b L hL=>⟨(h.base b L hL).1,Nat.lt_of_lt_of_le (h.base b L hL).2 hx.size⟩,h.inj,fun b L hL hr=>?_,fun cb hr=>?_,fun b esz g rs hb=>?_,fun b es hb=>?_,fun b r p s ps a c hb=>?_,fun b m k st hb=>?_⟩
 ·rcases hr with hr | hr
  ·exact h.resn b L hL hr
  ·exact h.fresh_cb hL hr
 ·rcases hr with hr | hr
  ·exact Nat.lt_of_lt_of_le (h.ress cb hr) hx.size
  ·rw [hr];simp
 ·obtain ⟨L,cs,T,fr,h1,h2,h3,h4,h5,h6⟩:=h.rows b esz g rs hb
  exact ⟨L,cs,T,fr,h1,h2,(hw b L h1).trans h3,h4,h5,h6.monoC hx⟩
 ·obtain ⟨L,ents,clock,h1,h2,h3,h4⟩:=h.map b es hb
  exact ⟨L,ents,clock,h1,h2,(hw b L h1).trans h3,h4.monoC hx⟩
 ·obtain ⟨L,r,h1,h2,h3,h4,h5,h6,h7,h8,h9⟩:=h.loop b _ _ _ _ _ _ hb
  exact ⟨L,r,h1,h2,(hw b L h1).trans h3,h4,h5,h6,h7,h8,h9.monoC hx⟩
 ·obtain ⟨L,M,h1,h2,h3,h4⟩:=h.it b _ _ _ hb
  exact ⟨L,M,h1,h2,(hw b L h1).trans h3,h4.monoC hx⟩
def adopt (φ:Phi) (b cb size:Nat):Phi:=⟨fun k=>if k=b then some ⟨0,cb,size⟩ else φ k,fun x=>φ.res x∧x≠cb⟩
theorem ExtR.adopt {cb size:Nat} (hres:φ.res cb):ExtR φ n w (adopt φ n cb size) (n+1) w:={
 env:=.refl
 le:=Nat.le_succ _
 size:=Nat.le_refl _
 loc b hb L' hL:=by
  simp only [Ev.adopt,Nat.ne_of_lt hb,if_false] at hL
  exact ⟨L',hL,Nat.le_refl _,fun _=>rfl⟩
 same cb o hc _:=hc
 nolive k hk hn:=by
  refine ⟨fun b L hL=>?_,fun h=>hn.2 h.1⟩
  simp only [Ev.adopt] at hL
  split at hL
  ·cases hL;rintro rfl;exact hn.2 hres
  ·exact hn.1 b L hL
 loops cb r hc:=⟨r,hc⟩
 keep cb o _ hc:=hc }
theorem HR.adopt (h:HR N φ H w) {cb:Nat} (hres:φ.res cb) (hN:N.n≤cb) {z:AV} {Z:Value} {T:TypeId} (hh:w.heap[cb]?=some (.cells Z.cells T (0,0))) (hz:RV φ H.length w z Z) (hl:z.cells.all AV.leaf=true) :
 HR N (adopt φ H.length cb Z.cells.size) (allocA H z).2 w:=by
 obtain ⟨h1,h2,h3⟩:=hz.cells hl
 have hx:ExtR φ H.length w _ _ w:=ExtR.adopt (n:=H.length) (size:=Z.cells.size) (w:=w) hres
 have hlen:(allocA H z).2.length=H.length+1:=by simp [allocA,allocG]
 have hnew:(allocA H z).2[H.length]?=some (.rows z.cells.length 0 [z.cells]):=by simp [allocA,allocG]
 have hloc:Ev.adopt φ H.length cb Z.cells.size H.length=some ⟨0,cb,Z.cells.size⟩:=by simp [Ev.adopt]
 refine h.changeC (by rw [hlen];exact hx.toC) (fun x hx'=>hx'.1) H.length ?_ ?_ ?_ ?_ ?_ ?_ ?_ ?_ ?_
 ·intro b hb
  simp only [allocA,allocG]
  rcases Nat.lt_or_ge b H.length with hlt | hge
  ·simp [List.getElem?_append,hlt]
  ·rw [List.getElem?_eq_none (by simp;omega),List.getElem?_eq_none (by omega)]
 ·intro b hb;simp [Ev.adopt,hb]
 ·intro b L _ _;rfl
 ·intro hdd;rw [hnew] at hdd;rcases hdd with e | e<;>cases e
 ·intro L hL
  rw [hloc] at hL;cases hL
  exact ⟨hN,h.ress cb hres,fun b L' _ hL' e=>h.resn b L' hL' (by rw [e];exact hres),fun hr=>hr.2 rfl⟩
 ·intro esz g rs hb
  rw [hnew] at hb;cases hb
  refine ⟨_,_,T,_,hloc,rfl,hh,rfl,.zero rfl,by simp [h1],fun i row hi=>?_⟩
  cases i with
  | succ i=>simp at hi
  | zero =>
   simp only [List.getElem?_cons_zero,Option.some.injEq] at hi
   subst hi
   refine ⟨rfl,fun j x hj=>?_⟩
   obtain ⟨a,X,b,c⟩:=h2 j x hj
   exact ⟨a,X,by simpa using b,c.monoC (by rw [hlen];exact hx.toC)⟩
 ·intro es hb;rw [hnew] at hb;cases hb
 ·intro _ _ _ _ _ _ hb;rw [hnew] at hb;cases hb
 ·intro _ _ _ hb;rw [hnew] at hb;cases hb
theorem step_kind0 {kk base:Nat} {ops:Array Oper} {o:Oper} {s:List AV} {H H':Heap} (H2:Heap) {v:AV} (h:stepA P C kk base ops o s H=some (v,H')) (hk:clsA P ops s o=0) :
 stepA P C kk base ops o s H2=some (v,H2)∧H'=H:=by
 cases kk with
 | zero=>simp [stepA] at h
 | succ kk =>
  simp only [stepA] at h ⊢
  unfold clsA at hk
  cases hw:wantedA ops s o with
  | none=>rw [hw] at h;cases h
  | some b =>
   rw [hw] at h hk
   cases b with
   | false =>
    simp only [Option.some.injEq,Prod.mk.injEq] at h ⊢
    obtain ⟨rfl,rfl⟩:=h
    simp
   | true =>
    simp only at h hk ⊢
    split at h
    ·rename_i e;rw [e] at hk;cases hk
    ·exact opA_kind0 h hk
theorem step_kind1 {kk base:Nat} {ops:Array Oper} {o:Oper} {s:List AV} {H H':Heap} {v:AV} (h:stepA P C kk base ops o s H=some (v,H')) (hk:clsA P ops s o≤1):H'=H:=by
 by_cases h0:clsA P ops s o=0
 ·exact (step_kind0 H h h0).2
 ·have h1:clsA P ops s o=1:=by omega
  cases kk with
  | zero=>simp [stepA] at h
  | succ kk =>
   simp only [stepA] at h
   unfold clsA at h1
   split at h1
   ·rename_i hw
    rw [hw] at h
    simp only at h
    split at h
    ·rename_i e;rw [e] at h1;cases h1
    ·exact opA_kind1 h h1
   ·cases h1
theorem kind3 {x:Op} (h:kindA P x=3):∃t,x=.alloc t∧tagG P t=0:=by
 cases x
 case alloc t =>
  simp only [kindA] at h
  split at h
  ·exact ⟨t,rfl,by assumption⟩
  ·cases h
 case convert s d x =>
  simp only [kindA] at h
  split at h<;>cases h
 case call c =>
  obtain ⟨callee,args,argTypes⟩:=c
  cases callee with
  | builtin b=>cases b<;>cases h
  | _=>cases h
 all_goals cases h
theorem step_kind3 {kk base:Nat} {ops:Array Oper} {o:Oper} {s:List AV} {H H':Heap} {v:AV} (h:stepA P C kk base ops o s H=some (v,H')) (hk:clsA P ops s o=3) :
 wantedA ops s o=some true∧∃t z,o.op=.alloc t∧ofZero P t=some z∧v=(allocA H z).1∧H'=(allocA H z).2:=by
 unfold clsA at hk
 split at hk
 ·rename_i hw
  obtain ⟨t,ht,htg⟩:=kind3 hk
  refine ⟨hw,t,?_⟩
  cases kk with
  | zero=>simp [stepA] at h
  | succ kk =>
   simp only [stepA,hw,ht,opA,htg] at h
   split at h
   ·rename_i z hz
    split at h
    ·cases h;exact ⟨z,ht,hz,rfl,rfl⟩
    ·cases h
   ·cases h
 ·cases hk
end Go.Proofs.Ev
namespace Go.Proofs.Ev
variable {P:Program} {C:Cfg} {N base:Nat}
mutual
theorem beq_refl:∀a:AV,AV.beq a a=true
 | .undef=>rfl
 | .bool b=>by simp [AV.beq]
 | .int k n=>by simp [AV.beq]
 | .str s=>by simp [AV.beq]
 | .nilp=>rfl
 | .ptr ..=>by simp [AV.beq]
 | .eptr a=>by simp [AV.beq,beqs_refl a]
 | .lst a _=>by simp [AV.beq,beqss_refl a]
 | .nils=>rfl
 | .sl ..=>by simp [AV.beq]
 | .asl ..=>by simp [AV.beq]
 | .nilm=>rfl
 | .map _=>by simp [AV.beq]
 | .nilf=>rfl
 | .fn _ a=>by simp [AV.beq,beqs_refl a]
 | .yld _=>by simp [AV.beq]
 | .agg a=>by simp [AV.beq,beqs_refl a]
 | .tup a=>by simp [AV.beq,beqs_refl a]
theorem beqs_refl:∀a:List AV,AV.beqs a a=true
 | []=>rfl
 | a::l=>by simp [AV.beqs,beq_refl a,beqs_refl l]
theorem beqss_refl:∀a:List (List AV),AV.beqss a a=true
 | []=>rfl
 | a::l=>by simp [AV.beqss,beqs_refl a,beqss_refl l]
end
theorem cutS_get' {s:List AV} {t:Nat}:∀(l:List Nat) (m:List AV),m.length=s.length→(m[t]?=s[t]?∨t∈l)→(l.foldl (fun m t=>m.set t (s.getD t .undef)) m)[t]?=s[t]?
 | [],m,_,h=>by simpa using h
 | u::l,m,hl,h=>by
  rw [List.foldl_cons]
  refine cutS_get' l _ (by simpa using hl) ?_
  by_cases e:u=t
  ·subst e
   left
   by_cases hu:u<s.length
   ·rw [List.getElem?_set_self (by omega),List.getD_eq_getElem?_getD,List.getElem?_eq_getElem hu];rfl
   ·rw [List.getElem?_eq_none (by simp;omega),List.getElem?_eq_none (by omega)]
  ·rw [List.getElem?_set_ne e]
   rcases h with h | h
   ·exact .inl h
   ·rcases List.mem_cons.1 h with h | h
    ·exact absurd h.symm e
    ·exact .inr h
theorem cutS_get {l:List Tmp} {s:List AV} {t:Nat} (h:t∈l):(cutS l s)[t]?=s[t]?:=cutS_get' l _ (by simp) (.inr h)
theorem opA_congr {H:Heap} {ρ ρ':Operand→AV} {o:Oper} (h:∀x∈o.op.operands,ρ x=ρ' x):opA P C base H ρ o=opA P C base H ρ' o:=by
 unfold opA
 cases ho:o.op with
 | call c =>
  rw [ho] at h
  obtain ⟨callee,args,ats⟩:=c
  have hargs:∀(i:Nat) (x:Operand),args[i]?=some x→ρ x=ρ' x:=by
   intro i x hx
   refine h x ?_
   simp only [Op.operands,Call.operands,Array.mem_append]
   exact .inr (Array.mem_of_getElem? hx)
  cases callee with
  | builtin b =>
   cases b with
   | len =>
    simp only
    cases h1:args[0]? with
    | none=>cases ats[0]?<;>rfl
    | some x =>
     cases ats[0]? with
     | none=>rfl
     | some t=>simp only [hargs 0 x h1]
   | clear =>
    simp only
    cases h1:args[0]? with
    | none=>cases ats[0]?<;>rfl
    | some x =>
     cases ats[0]? with
     | none=>rfl
     | some t=>simp only [hargs 0 x h1]
   | append =>
    simp only
    cases h1:args[0]? with
    | none=>simp
    | some x =>
     cases h2:args[1]? with
     | none=>simp
     | some y=>simp only [hargs 0 x h1,hargs 1 y h2]
   | _=>rfl
  | _=>rfl
 | build t ps =>
  rw [ho] at h
  simp only
  have:(ps.toList.map fun x=>(x.1,ρ x.2))=ps.toList.map fun x=>(x.1,ρ' x.2) :=
   List.map_congr_left fun x hx=>by rw [h x.2 (by simp only [Op.operands];simp;exact ⟨x.1,by simpa using hx⟩)]
  rw [this]
 | buildSlice t len ps =>
  rw [ho] at h
  simp only
  have:(ps.toList.map fun x=>(x.1,ρ x.2))=ps.toList.map fun x=>(x.1,ρ' x.2) :=
   List.map_congr_left fun x hx=>by rw [h x.2 (by simp only [Op.operands];simp;exact ⟨x.1,by simpa using hx⟩)]
  rw [this]
 | makeFunc f first caps =>
  rw [ho] at h
  cases f with
  | func f =>
   simp only
   have:caps.toList.map ρ=caps.toList.map ρ':=List.map_congr_left fun x hx=>h x (by simp only [Op.operands,Array.mem_append];exact .inr (by simpa using hx))
   rw [this]
  | _=>rfl
 | next x b =>
  rw [ho] at h
  have h1:=h x (by simp [Op.operands])
  cases b with
  | true=>rfl
  | false=>simp only [h1]
 | slice t x lo hi mx =>
  rw [ho] at h
  simp only [Op.operands,Array.mem_append] at h
  have h1:=h x (by simp)
  have h2:lo.map ρ=lo.map ρ':=by
   cases lo with
   | none=>rfl
   | some y=>simp [h y (by simp)]
  have h3:hi.map ρ=hi.map ρ':=by
   cases hi with
   | none=>rfl
   | some y=>simp [h y (by simp)]
  have h4:mx.map ρ=mx.map ρ':=by
   cases mx with
   | none=>rfl
   | some y=>simp [h y (by simp)]
  simp only [h1,h2,h3,h4]
 | makeMap t r=>cases r<;>rfl
 | _ =>
  rewrite [ho] at h
  simp [Op.operands] at h
  first
   | rfl
   | simp only [h]
theorem looks_op {ops:Array Oper} {o:Oper} {t:Tmp} (h:Operand.tmp t∈o.op.operands):t∈looks ops o:=by
 unfold looks
 rw [List.mem_append]
 left
 rw [List.mem_filterMap]
 exact ⟨.tmp t,by simpa using h,rfl⟩
theorem eval_cut {ops:Array Oper} {o:Oper} {l:List AV} {x:Operand} (h:x∈o.op.operands):evalOperand (cutS (looks ops o) l) x=evalOperand l x:=by
 cases x with
 | tmp t=>simp only [evalOperand,List.getD_eq_getElem?_getD,cutS_get (looks_op h)]
 | _=>rfl
theorem wanted_cut {ops:Array Oper} {o:Oper} {l:List AV}:wantedA ops (cutS (looks ops o) l) o=wantedA ops l o:=by
 unfold wantedA
 cases hg:o.guard with
 | none=>rfl
 | some jw =>
  obtain ⟨j,want⟩:=jw
  simp only
  cases hd:(ops[j]?).bind (·.dst) with
  | none=>rfl
  | some d =>
   simp only
   rw [cutS_get (by unfold looks;rw [hg];simp [hd])]
theorem step_cut {n:Nat} {ops:Array Oper} {o:Oper} {l:List AV} {H:Heap}:stepA P C n base ops o (cutS (looks ops o) l) H=stepA P C n base ops o l H:=by
 cases n with
 | zero=>unfold stepA;rfl
 | succ n =>
  unfold stepA
  rw [wanted_cut]
  split
  ·rename_i hw
   split
   ·rename_i f args ats e
    have h1:evalOperand (cutS (looks ops o) l) f=evalOperand l f:=eval_cut (by rw [e];simp [Op.operands,Call.operands])
    have h2:args.toList.map (evalOperand (cutS (looks ops o) l))=args.toList.map (evalOperand l):=List.map_congr_left fun x hx=>eval_cut (by rw [e];simp only [Op.operands,Call.operands,Array.mem_append];exact .inr (by simpa using hx))
    rw [h1,h2]
   ·exact opA_congr fun x hx=>eval_cut hx
  ·rfl
  ·rfl
theorem cls_cut {ops:Array Oper} {o:Oper} {l:List AV}:clsA P ops (cutS (looks ops o) l) o=clsA P ops l o:=by unfold clsA;rw [wanted_cut]
def befS (ops:Array Oper):Nat→Nat→Bool:=let B:=befGo ops.toList [];fun k i=>(B.getD i 0).testBit k
def clsS (P:Program) (ops:Array Oper) (i:Nat):Nat:=match ops[i]? with | some o=>kindA P o.op | none=>0
def statB (P:Program) (ops:Array Oper):Bool :=
 (List.range ops.size).all fun i =>
  match ops[i]? with
  | none=>false
  | some o =>
   (o.after.toList.all fun e=>!Region.binds .any e||decide (e.on<i)) &&
   ((List.range ops.size).all fun k=>k==i||(match (ops[k]?).bind (·.dst) with
     | some d=>o.dst != some d&&(!(looks ops o).contains d||befS ops k i||befS ops i k)
     | none=>true)) &&
   (decide (clsS P ops i<2)||clsS P ops i==3||(List.range i).all fun k=>decide (clsS P ops k<2)||befS ops k i) &&
   (clsS P ops i != 3||(List.range ops.size).all fun j=>!befS ops i j||(List.range i).all fun k=>decide (clsS P ops k<2)||befS ops k j)
def looseB (P:Program) (ops:Array Oper) (k:Nat):Bool:=(List.range ops.size).any fun i=>clsS P ops i==1&&!befS ops k i&&!befS ops i k
def wpOpsU (P:Program) (C:Cfg) (N base:Nat) (ops:Array Oper):Nat→List Oper→Sl→Heap→(Sl→Heap→Prop)→Prop
 | _,[],s,H,Q=>Q s H
 | i,o::l,s,H,Q=>dstOk N o.dst∧wpStep P C base ops o s H fun v H'=>(looseB P ops i=true→H'=H)∧wpOpsU P C N base ops (i+1) l (putF s o.dst v) H' Q
theorem runU {ops:Array Oper}:∀{os:List Oper} {i:Nat} {s:Sl} {H:Heap} {Q:Sl→Heap→Prop},wpOpsU P C N base ops i os s H Q→∀{l:List AV},Rep N l s→
 ∃n tr l' s' H',runT P ops (fun o s H=>stepA P C n base ops o s H) os l H=some (tr,l',H')∧Rep N l' s'∧Q s' H'∧
  ∀k,k<os.length→looseB P ops (i+k)=true→(if k+1<os.length then (tr.getD (k+1) default).h else H')=(tr.getD k default).h
 | [],_,s,H,_,h,l,hr=>⟨0,[],l,s,H,rfl,hr,h,fun k hk=>by simp at hk⟩
 | o::os,i,s,H,Q,h,l,hr=>by
  unfold wpOpsU at h
  obtain ⟨n,v,H1,h1,h2,h3⟩:=wpStep_sound h.2 hr
  obtain ⟨m,tr,l',s',H',h4,h5,h6,h7⟩:=runU h3 (hr.put h.1 v)
  have e1:stepA P C (n+m) base ops o (cutS (looks ops o) l) H=some (v,H1):=by rw [step_cut];exact stepA_mono (Nat.le_add_right n m) h1
  have e2:=runT_mono (P:=P) (g:=fun o s H=>stepA P C (n+m) base ops o s H) (fun o s H r h=>stepA_mono (Nat.le_add_left m n) h) h4
  refine ⟨n+m,⟨cutS (looks ops o) l,H,v,match wantedA ops (cutS (looks ops o) l) o with | some true=>kindA P o.op | _=>0⟩::tr,l',s',H',?_,h5,h6,fun k hk hl=>?_⟩
  ·simp only [runT]
   rw [e1]
   simp only
   rw [e2]
   rfl
  ·cases k with
   | zero =>
    have h8:=h2 (by simpa using hl)
    subst h8
    cases os with
    | nil=>simp only [runT,Option.some.injEq,Prod.mk.injEq] at h4;obtain ⟨rfl,rfl,rfl⟩:=h4;simp
    | cons o2 os =>
     have h9:=(runT_spec _ _ _ _ _ _ h4)
     obtain ⟨h10,S,Hp,h11,h12,_,_,h13⟩:=h9
     have h14:=(h13 0 o2 rfl).2.1
     simp only [List.length_cons,Nat.zero_add]
     rw [if_pos (by omega)]
     simp only [List.getD_cons_succ,List.getD_cons_zero]
     rw [h14,h12]
   | succ k =>
    have:=h7 k (by simpa using hk) (by rw [show i+1+k=i+(k+1) by omega];exact hl)
    simp only [List.length_cons,Nat.add_lt_add_iff_right,List.getD_cons_succ]
    exact this
theorem draw_rule {ops:Array Oper} {s:Sl} {H:Heap} {Q:Sl→Heap→Prop} (hst:statB P ops=true) (h:wpOpsU P C N base ops 0 ops.toList s H Q):DrawW P C N base ops s H Q:=by
 intro l hr
 obtain ⟨n,tr,l',s',H',h1,h2,h3,h4⟩:=runU h hr
 refine ⟨n,tr,l',s',H',h1,?_,h2,h3⟩
 obtain ⟨hlen,S,Hp,hS0,hH0,hSn,hHn,hat⟩:=runT_spec _ _ _ _ _ _ h1
 have hsz:ops.toList.length=ops.size:=by simp
 have hn:tr.length=ops.size:=by rw [hlen,hsz]
 have hget:∀i o,ops[i]?=some o→ops.toList[i]?=some o:=fun i o h=>by rw [Array.getElem?_toList];exact h
 have hop:∀i,i<ops.size→∃o,ops[i]?=some o:=fun i hi=>⟨_,Array.getElem?_eq_getElem hi⟩
 have hcls:∀i,i<ops.size→(tr.getD i default).c=0∨(tr.getD i default).c=clsS P ops i:=by
  intro i hi
  obtain ⟨o,ho⟩:=hop i hi
  rw [(hat i o (hget i o ho)).2.2.2.2,cls_cut]
  unfold clsA clsS
  rw [ho]
  split
  ·exact .inr rfl
  ·exact .inl rfl
 have hquiet:∀i,i<ops.size→¬2≤(tr.getD i default).c→Hp (i+1)=Hp i:=by
  intro i hi hc
  obtain ⟨o,ho⟩:=hop i hi
  obtain ⟨_,_,h5,_,h6⟩:=hat i o (hget i o ho)
  exact step_kind1 h5 (by rw [←h6];omega)
 have hheap:∀p,p≤ops.size→(if p<tr.length then (tr.getD p default).h else H')=Hp p:=by
  intro p hp
  split
  ·rename_i hlt
   obtain ⟨o,ho⟩:=hop p (by omega)
   exact (hat p o (hget p o ho)).2.1
  ·rename_i hge
   have:p=ops.toList.length:=by omega
   rw [this];exact hHn.symm
 have hloose:∀k,k<ops.size→looseB P ops k=true→Hp (k+1)=Hp k:=by
  intro k hk hl
  have:=h4 k (by omega) (by rw [Nat.zero_add];exact hl)
  rw [←hheap (k+1) (by omega),←hheap k (by omega),if_pos (show k<tr.length by omega)]
  rw [←this,hlen]
 unfold statB at hst
 rw [List.all_eq_true] at hst
 have hlt:∀a b,Waits ops a b→a<b:=by
  intro a b hw
  induction hw with
  | @one i o e ho he hb =>
   have h5:=hst i (List.mem_range.2 (Array.getElem?_eq_some_iff.1 ho).1)
   rw [ho] at h5
   simp only [Bool.and_eq_true,List.all_eq_true] at h5
   have:=h5.1.1.1 e (by simpa using he)
   rw [hb] at this
   simpa using this
  | @more k i o e ho he hb _ ih =>
   have h5:=hst i (List.mem_range.2 (Array.getElem?_eq_some_iff.1 ho).1)
   rw [ho] at h5
   simp only [Bool.and_eq_true,List.all_eq_true] at h5
   have:=h5.1.1.1 e (by simpa using he)
   rw [hb] at this
   have:e.on<i:=by simpa using this
   omega
 unfold drawOkT drawOk
 simp only
 rw [List.all_eq_true]
 intro i hi
 have hi:i<ops.size:=by rw [←hn];exact List.mem_range.1 hi
 obtain ⟨o,ho⟩:=hop i hi
 have h5:=hst i (List.mem_range.2 hi)
 rw [ho] at h5 ⊢
 simp only [Bool.and_eq_true] at h5 ⊢
 obtain ⟨⟨⟨h6,h7⟩,h8⟩,h9⟩:=h5
 have hin:∀k,k∈(List.range tr.length).filter (fun i=>decide (2≤(tr.getD i default).c))→k<ops.size∧¬clsS P ops k<2:=by
  intro k hk
  rw [List.mem_filter,List.mem_range,decide_eq_true_eq] at hk
  refine ⟨by omega,fun h=>?_⟩
  rcases hcls k (by omega) with h' | h'<;>omega
 refine ⟨⟨⟨⟨h6,?_⟩,?_⟩,?_⟩,?_⟩
 ·rw [hn]
  rw [List.all_eq_true] at h7 ⊢
  intro k hk
  have h10:=h7 k hk
  rw [Bool.or_eq_true] at h10 ⊢
  rcases h10 with h10 | h10
  ·exact .inl h10
  ·right
   simp only [Option.bind_some] at h10 ⊢
   exact h10
 ·rcases hcls i hi with h' | h'
  ·simp only [h'];rfl
  ·simp only [h']
   rw [Bool.or_eq_true] at h8 ⊢
   rcases h8 with h8 | h8
   ·exact .inl h8
   ·right
    rw [List.all_eq_true] at h8 ⊢
    intro k hk
    rw [Bool.or_eq_true,decide_eq_true_eq]
    by_cases hik:i≤k
    ·exact .inl hik
    ·right
     have h11:=h8 k (List.mem_range.2 (by omega))
     rw [Bool.or_eq_true,decide_eq_true_eq] at h11
     rcases h11 with h11 | h11
     ·exact absurd h11 (hin k hk).2
     ·exact h11
 ·rcases hcls i hi with h' | h'
  ·simp only [h'];rfl
  ·simp only [h',hn]
   rw [Bool.or_eq_true] at h9 ⊢
   rcases h9 with h9 | h9
   ·exact .inl h9
   ·right
    rw [List.all_eq_true] at h9 ⊢
    intro j hj
    have h10:=h9 j hj
    rw [Bool.or_eq_true] at h10 ⊢
    rcases h10 with h10 | h10
    ·exact .inl h10
    ·right
     rw [List.all_eq_true] at h10 ⊢
     intro k hk
     rw [Bool.or_eq_true,decide_eq_true_eq]
     by_cases hik:i≤k
     ·exact .inl hik
     ·right
      have h11:=h10 k (List.mem_range.2 (by omega))
      rw [Bool.or_eq_true,decide_eq_true_eq] at h11
      rcases h11 with h11 | h11
      ·exact absurd h11 (hin k (by rw [hn];exact hk)).2
      ·exact h11
 ·rw [Bool.or_eq_true]
  by_cases hc1:(tr.getD i default).c=1
  ·right
   have hs1:clsS P ops i=1:=by rcases hcls i hi with h' | h'<;>omega
   rw [List.all_eq_true]
   intro p hp
   rw [Bool.or_eq_true]
   by_cases hcons:((List.range tr.length).filter fun i=>decide (2≤(tr.getD i default).c)).all (fun k=>(!befS ops k i||decide (k<p))&&(!befS ops i k||decide (p≤k)))=true
   ·right
    rw [List.all_eq_true] at hcons
    have hp':p≤ops.size:=by
     rcases List.mem_append.1 hp with h | h
     ·exact Nat.le_of_lt (hin p h).1
     ·simp at h;omega
    obtain ⟨h10,h11,h12,_,_⟩:=hat i o (hget i o ho)
    have hsame:∀k,k<ops.size→(i<k∧k<p∨p≤k∧k<i)→Hp (k+1)=Hp k:=by
     intro k hk hbt
     by_cases hc2:2≤(tr.getD k default).c
     ·have hkm:k∈(List.range tr.length).filter fun i=>decide (2≤(tr.getD i default).c):=by
       rw [List.mem_filter,List.mem_range,decide_eq_true_eq];exact ⟨by omega,hc2⟩
      have h13:=hcons k hkm
      simp only [Bool.and_eq_true,Bool.or_eq_true,Bool.not_eq_true',decide_eq_true_eq] at h13
      have hki:befS ops k i=false∧befS ops i k=false:=by
       have hord:∀a b,befS ops a b=true→a<b:=by
        intro a b hab
        exact hlt _ _ (befGo_spec _ [] rfl (fun j k h=>by simp at h) _ _ hab)
       rcases hbt with hbt | hbt
       ·refine ⟨?_,?_⟩
        ·cases hb:befS ops k i with
         | false=>rfl
         | true=>have:=hord _ _ hb;omega
        ·rcases h13.2 with h | h
         ·exact h
         ·omega
       ·refine ⟨?_,?_⟩
        ·rcases h13.1 with h | h
         ·exact h
         ·omega
        ·cases hb:befS ops i k with
         | false=>rfl
         | true=>have:=hord _ _ hb;omega
      refine hloose k hk ?_
      unfold looseB
      rw [List.any_eq_true]
      exact ⟨i,List.mem_range.2 hi,by simp [hs1,hki.1,hki.2]⟩
     ·exact hquiet k hk hc2
    have hi1:Hp (i+1)=Hp i:=hquiet i hi (by omega)
    have hup:∀d,i+1+d≤p→Hp (i+1+d)=Hp i:=by
     intro d
     induction d with
     | zero=>intro _;exact hi1
     | succ d ih=>intro hd;rw [←ih (by omega)];exact hsame (i+1+d) (by omega) (.inl ⟨by omega,by omega⟩)
    have hdown:∀d,p+d≤i→Hp (p+d)=Hp p:=by
     intro d
     induction d with
     | zero=>intro _;rfl
     | succ d ih=>intro hd;rw [←ih (by omega)];exact hsame (p+d) (by omega) (.inr ⟨by omega,by omega⟩)
    have hpp:Hp p=Hp i:=by
     rcases Nat.lt_trichotomy i p with h | h | h
     ·have:=hup (p-(i+1)) (by omega);rwa [show i+1+(p-(i+1))=p by omega] at this
     ·rw [h]
     ·have:=hdown (i-p) (by omega);rw [show p+(i-p)=i by omega] at this;exact this.symm
    rw [hheap p hp',hpp,h10]
    rw [show stepA P C n base ops o (cutS (looks ops o) (S i)) (Hp i)=_ from h12]
    exact beq_refl _
   ·left
    simp only [Bool.not_eq_true] at hcons
    simp only [befS] at hcons
    rw [Bool.not_eq_true']
    exact hcons
  ·left
   rw [bne_iff_ne];exact hc1
end Go.Proofs.Ev
