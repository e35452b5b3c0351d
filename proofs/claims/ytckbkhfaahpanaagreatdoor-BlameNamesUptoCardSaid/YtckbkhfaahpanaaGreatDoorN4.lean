/- Part 4 of the proof that quiltlaw38.BlameNames returns true: no statement of its own. -/
import Derived.Test.YtckbkhfaahpanaaGreatDoorN3
import Derived.Laws.NewFold
import Derived.IntWalk
import Derived.RangeFuncLeaves
import Derived.RangeFuncNested
import Derived.RangeFuncRecord
import Derived.LoopNIn
set_option linter.all false
namespace Go.Proofs.Ev
open Go.RowKit
variable {P:Program} {C:Cfg} {N:Low} {φ φ':Phi} {H H':Heap} {w w':World} {n:Nat}
theorem run_checkK:∀(d:Nat) (t:TypeId) (ks:List LK),flatKinds P d t=some ks→∀v V,RV φ n w v V→Shaped P t v→conf ks v.cells=true→∀(em:Bool) e,d≤e→(Instr.checkKey em e t V).run P w=.ok () w:=by
 intro d
 induction d with
 | zero=>intro t ks h;cases h
 | succ d ih =>
  intro t ks h v V hv sv cv em e he
  obtain ⟨e,rfl⟩:∃e',e=e'+1:=⟨e-1,by omega⟩
  have ih':=fun t ks hk v V a b c=>ih t ks hk v V a b c em e (by omega)
  unfold flatKinds at h
  split at h
  ·rename_i k hu
   unfold Instr.checkKey
   simp only [Sem.run_bind,run_under hu,Result.andThen_ok]
   rfl
  ·rename_i hu
   unfold Instr.checkKey
   simp only [Sem.run_bind,run_under hu,Result.andThen_ok]
   rfl
  ·rename_i hu
   unfold Instr.checkKey
   simp only [Sem.run_bind,run_under hu,Result.andThen_ok]
   rfl
  ·rename_i len elem hu
   split at h
   ·rename_i k1 hk1
    split at h<;>cases h
    rename_i hsz
    have e1:∃cs,v=.agg cs:=by rcases sv with ⟨_,h2⟩ | ⟨h1,_⟩;exact h2;simp [isAggT,hu] at h1
    obtain ⟨cells,rfl⟩:=e1
    have hv2:=hv
    cases hv with
    | agg _ hf _ =>
    rename_i CS _ _
    obtain ⟨_,b,hb,hb1⟩:=flat_agg hk1
    unfold Instr.checkKey
    simp only [Sem.run_bind,run_under hu,Result.andThen_ok]
    simp only [Std.Legacy.Range.forIn_eq_forIn_range',Std.Legacy.Range.size,Nat.sub_zero,Nat.add_one_sub_one,Nat.div_one]
    have key:∀(m i:Nat),i+m=len→conf (List.replicate m k1).flatten (cells.drop (i*k1.length))=true→i*k1.length≤cells.length→
     (forIn (List.range' i m) () fun i _=>do
      let __do_lift ←sizeOf elem
      let __do_lift ←part elem CS (i*__do_lift)
      Instr.checkKey em e elem __do_lift
      pure (ForInStep.yield ()):Sem Unit).run P w=.ok () w:=by
     intro m
     induction m with
     | zero=>intro i _ _ _;simp
     | succ m ihm =>
      intro i him c1 o1
      rw [List.replicate_succ,List.flatten_cons] at c1
      obtain ⟨a1,a2⟩:=conf_append c1
      have l1:=conf_length c1
      simp only [List.length_append,List.length_drop] at l1
      obtain ⟨u,u1,u2,u3⟩:=takeVal_kinds (P:=P) (t:=elem) (cells:=cells.drop (i*k1.length)) hsz.1 (by simp;omega) hb hb1 (fun _ c hc=>by obtain ⟨j,hj⟩:=List.getElem?_of_mem (List.mem_of_mem_drop hc);exact hf j c hj)
      obtain ⟨U,p1,p2⟩:=partA_sound (P:=P) (t:=elem) (off:=i*k1.length) hv2 (by unfold partA;rw [if_pos o1];exact u1)
      have hck:=ih' _ _ hk1 u U p2 u3 (by rw [u2];exact a1)
      have e1:(i+1)*k1.length=i*k1.length+k1.length:=by rw [Nat.add_mul,Nat.one_mul]
      rw [List.range'_succ,List.forIn_cons]
      simp only [Sem.run_bind,run_sizeOf hsz.1,p1,hck,Result.andThen_ok,Sem.run_pure]
      have:=ihm (i+1) (by omega) (by rw [e1,←List.drop_drop];exact a2) (by omega)
      simpa only [Sem.run_bind,run_sizeOf hsz.1,Result.andThen_ok] using this
    have:=key len 0 (by omega) (by simpa [AV.cells] using cv) (by omega)
    exact (congrArg (fun r:Result Unit=>r.andThen fun _ w'=>Sem.run P (pure ()) w') this).trans rfl
   ·cases h
  ·rename_i fields hu
   split at h
   ·cases h
   ·rename_i hst
    split at h
    ·rename_i ks' hks
     split at h<;>cases h
     have e1:∃cs,v=.agg cs:=by rcases sv with ⟨_,h2⟩ | ⟨h1,_⟩;exact h2;simp [isAggT,hu] at h1
     obtain ⟨cells,rfl⟩:=e1
     have hv2:=hv
     cases hv with
     | agg _ hf _ =>
     rename_i CS _ _
     unfold Instr.checkKey
     simp only [Sem.run_bind,run_under hu,Result.andThen_ok]
     rw [←Array.forIn_toList]
     have key:∀(fs:List Field) (off:Nat) (ks:List LK),fieldKinds P (flatKinds P d) off fs=some ks→conf ks (cells.drop off)=true→
      (forIn fs () fun f _=>do
       if f.name≠ "_" then do
        let __do_lift ←part f.type CS f.offset
        Instr.checkKey em e f.type __do_lift
        pure (ForInStep.yield ())
        else pure (ForInStep.yield ()):Sem Unit).run P w=.ok () w:=by
      intro fs
      induction fs with
      | nil=>intro off ks _ _;simp
      | cons f fs ihf =>
       intro off ks hk c1
       simp only [fieldKinds] at hk
       split at hk
       ·rename_i k1 hk1
        split at hk
        ·rename_i hc
         obtain ⟨hname,hoff,hsz,hpos⟩:=hc
         split at hk
         ·rename_i rest hrest
          cases hk
          subst hoff
          obtain ⟨a1,a2⟩:=conf_append c1
          have l1:=conf_length c1
          simp only [List.length_append,List.length_drop] at l1
          obtain ⟨_,b,hb,hb1⟩:=flat_agg hk1
          obtain ⟨u,u1,u2,u3⟩:=takeVal_kinds (P:=P) (t:=f.type) (cells:=cells.drop f.offset) hsz (by simp;omega) hb hb1 (fun _ c hc=>by obtain ⟨j,hj⟩:=List.getElem?_of_mem (List.mem_of_mem_drop hc);exact hf j c hj)
          obtain ⟨U,p1,p2⟩:=partA_sound (P:=P) (t:=f.type) (off:=f.offset) hv2 (by unfold partA;rw [if_pos (by omega)];exact u1)
          have hck:=ih' _ _ hk1 u U p2 u3 (by rw [u2];exact a1)
          have hrec:=ihf (f.offset+k1.length) rest hrest (by rw [←List.drop_drop];exact a2)
          simp only [List.forIn_cons,Sem.run_bind,ne_eq,hname,not_false_eq_true,if_true,p1,hck,Result.andThen_ok,Sem.run_pure]
          exact hrec
         ·cases hk
        ·cases hk
       ·cases hk
     have:=key fields.toList 0 ks hks (by simpa [AV.cells] using cv)
     exact (congrArg (fun r:Result Unit=>r.andThen fun _ w'=>Sem.run P (pure ()) w') this).trans rfl
    ·cases h
  ·cases h
theorem keyOk_sound (hC:C.Fits P) {t:TypeId} {k:AV} {K:Value} (hk:RV φ n w k K) (h:keyOk P C t k=true) (em:Bool):(Instr.checkKey em 10000 t K).run P w=.ok () w:=by
 unfold keyOk at h
 split at h
 ·rename_i hu
  cases hk
  show (Instr.checkKey em (9999+1) t _).run P w=_
  generalize 9999=d
  simp [Instr.checkKey,run_under hu]
 ·rename_i hu
  cases hk
  show (Instr.checkKey em (9999+1) t _).run P w=_
  generalize 9999=d
  simp [Instr.checkKey,run_under hu]
 ·rename_i hu
  cases hk
  show (Instr.checkKey em (9999+1) t _).run P w=_
  generalize 9999=d
  simp [Instr.checkKey,run_under hu]
 ·split at h
  ·rename_i ks hks
   obtain ⟨h1,_,h2⟩:=hC.kinds _ _ hks
   exact run_checkK 20 t ks h1 _ _ hk (.inl ⟨h2,_,rfl⟩) h em 10000 (by omega)
  ·cases h
 ·cases h
def EntsL (φ:Phi) (n:Nat) (w:World) (es:List (AV×AV)) (ents:List MapEntry):Prop:=Two (fun p e=>RV φ n w p.1 e.key∧RV φ n w p.2 e.val) es ents
theorem Two.of_get {α β:Type} {R:α→β→Prop}:∀{l:List α} {m:List β},l.length=m.length→(∀(i:Nat) a b,l[i]?=some a→m[i]?=some b→R a b)→Two R l m
 | [],[],_,_=>.nil
 | a::l,b::m,h,hr=>.cons (hr 0 a b rfl rfl) (Two.of_get (by simpa using h) fun i x y hx hy=>hr (i+1) x y hx hy)
theorem Two.get {α β:Type} {R:α→β→Prop} {l:List α} {m:List β} (h:Two R l m):l.length=m.length∧∀(i:Nat) a,l[i]?=some a→∃b,m[i]?=some b∧R a b:=by
 induction h with
 | nil=>exact ⟨rfl,fun i a h=>by simp at h⟩
 | cons h1 _ ih =>
  refine ⟨by simp [ih.1],fun i a h=>?_⟩
  cases i with
  | zero=>simp at h;subst h;exact ⟨_,rfl,h1⟩
  | succ i=>exact ih.2 i a (by simpa using h)
theorem EntsAt.two {es:List (AV×AV)} {ents:Array MapEntry} {clock:Nat} (h:EntsAt φ n w es ents clock):EntsL φ n w es ents.toList:=by
 refine Two.of_get (by simpa using h.1.symm) fun i p e hp he=>?_
 obtain ⟨k,v⟩:=p
 obtain ⟨e',h1,h2,h3⟩:=h.2.1 i k v hp
 rw [Array.getElem?_toList,h1] at he
 cases he;exact ⟨h2,h3⟩
def Found (φ:Phi) (n:Nat) (w:World):Option (Nat×AV)→Option (Nat×Value)→Prop
 | none,none=>True
 | some (i,v),some (j,V)=>i=j∧RV φ n w v V
 | _,_=>False
theorem findA_now {t:TypeId} {k:AV} {K:Value} (hk:RV φ n w k K) {d:TypeDesc} (hu:P.underlying t=some d) (hok:(∃a x,k=.int a x∧∃b,d=.int b)∨(∃s,k=.str s∧d=.string)∨(∃b,k=.bool b∧d=.bool)) :
 ∀{es:List (AV×AV)} {ents:List MapEntry} {i:Nat} {r:Option (Nat×AV)},EntsL φ n w es ents→findA P C t k es i=some r→∃R,Instr.findNow d K ents i=some R∧Found φ n w r R:=by
 intro es
 induction es with
 | nil =>
  intro ents i r h hf
  cases h
  simp only [findA,Option.some.injEq] at hf
  subst hf
  exact ⟨none,rfl,trivial⟩
 | cons p es ih =>
  intro ents i r h hf
  obtain ⟨k',v'⟩:=p
  cases h with
  | cons h1 h2 =>
   rename_i e ents
   obtain ⟨hk',hv'⟩:=h1
   have step:∀b,Instr.sameNow d K e.key=some b→(match b with | true=>some (some (i,v')) | false=>findA P C t k es (i+1))=some r→∃R,Instr.findNow d K (e::ents) i=some R∧Found φ n w r R:=by
    intro b hb hr
    cases b with
    | true=>simp only [Option.some.injEq] at hr;subst hr;exact ⟨some (i,e.val),by simp [Instr.findNow,hb],rfl,hv'⟩
    | false =>
     obtain ⟨R,h3,h4⟩:=ih h2 hr
     exact ⟨R,by simp [Instr.findNow,hb,h3],h4⟩
   rcases hok with ⟨a,x,rfl,b,rfl⟩ | ⟨s,rfl,rfl⟩ | ⟨b,rfl,rfl⟩
   ·cases hk
    simp only [findA,keyEqA] at hf
    cases k' with
    | int a' y =>
     simp only at hk' hf
     cases hke:e.key<;>rw [hke] at hk'<;>cases hk'
     by_cases ha:a=a'
     ·subst ha
      rw [if_pos rfl] at hf
      refine step (x==y) (by rw [hke];simp [Instr.sameNow]) ?_
      revert hf;cases x==y<;>exact id
     ·rw [if_neg ha] at hf;cases hf
    | _=>simp [eqA] at hf
   ·cases hk
    simp only [findA,keyEqA] at hf
    cases k' with
    | str y =>
     simp only at hk' hf
     cases hke:e.key<;>rw [hke] at hk'<;>cases hk'
     refine step (s==y) (by rw [hke];simp only [Instr.sameNow,beq_toListBytes,toList_mk]) ?_
     revert hf;cases s==y<;>exact id
    | _=>simp [eqA] at hf
   ·cases hk
    simp only [findA,keyEqA] at hf
    cases k' with
    | bool y =>
     simp only at hk' hf
     cases hke:e.key<;>rw [hke] at hk'<;>cases hk'
     simp only [eqA,hu] at hf
     refine step (b==y) (by rw [hke];simp [Instr.sameNow]) ?_
     revert hf;cases b==y<;>exact id
    | _=>simp [eqA] at hf
theorem findA_ask (hC:C.Fits P) {t:TypeId} {cs:List AV} {K:Value} (hk:RV φ n w (.agg cs) K) :
 ∀{es:List (AV×AV)} {ents:List MapEntry} {i:Nat} {r:Option (Nat×AV)},EntsL φ n w es ents→findA P C t (.agg cs) es i=some r→∃R,(Instr.findAsking t K ents i).run P w=.ok R w∧Found φ n w r R:=by
 intro es
 induction es with
 | nil =>
  intro ents i r h hf
  cases h
  simp only [findA,Option.some.injEq] at hf
  subst hf
  exact ⟨none,by simp [Instr.findAsking],trivial⟩
 | cons p es ih =>
  intro ents i r h hf
  obtain ⟨k',v'⟩:=p
  cases h with
  | cons h1 h2 =>
   rename_i e ents
   obtain ⟨hk',hv'⟩:=h1
   simp only [findA,keyEqA] at hf
   cases he:eqA P C t (.agg cs) k' with
   | none=>rw [he] at hf;cases hf
   | some b =>
    rw [he] at hf
    have h3:=eqA_sound hC hk hk' he
    cases b with
    | true=>simp only [Option.some.injEq] at hf;subst hf;exact ⟨some (i,e.val),by simp [Instr.findAsking,h3],rfl,hv'⟩
    | false =>
     obtain ⟨R,h4,h5⟩:=ih h2 hf
     exact ⟨R,by simp [Instr.findAsking,h3,h4],h5⟩
theorem findA_sound (hC:C.Fits P) {t:TypeId} {k:AV} {K:Value} (hk:RV φ n w k K) (hok:keyOk P C t k=true) {es:List (AV×AV)} {ents:Array MapEntry} {clock:Nat} (he:EntsAt φ n w es ents clock) {r:Option (Nat×AV)} (h:findA P C t k es 0=some r) :
 ∃R,(Instr.findKey t K ents.toList).run P w=.ok R w∧Found φ n w r R:=by
 unfold keyOk at hok
 unfold Instr.findKey
 split at hok
 ·rename_i hu
  obtain ⟨R,h1,h2⟩:=findA_now (P:=P) (C:=C) hk hu (.inl ⟨_,_,rfl,_,rfl⟩) he.two h
  exact ⟨R,by simp [run_under hu,h1],h2⟩
 ·rename_i hu
  obtain ⟨R,h1,h2⟩:=findA_now (P:=P) (C:=C) hk hu (.inr (.inl ⟨_,rfl,rfl⟩)) he.two h
  exact ⟨R,by simp [run_under hu,h1],h2⟩
 ·rename_i hu
  obtain ⟨R,h1,h2⟩:=findA_now (P:=P) (C:=C) hk hu (.inr (.inr ⟨_,rfl,rfl⟩)) he.two h
  exact ⟨R,by simp [run_under hu,h1],h2⟩
 ·rename_i cs d hu
  obtain ⟨R,h1,h2⟩:=findA_ask hC hk he.two h
  have hf:=he.two
  cases hents:ents.toList with
  | nil =>
   rw [hents] at h1 hf
   cases hf
   simp only [Instr.findAsking,Sem.run_pure] at h1
   cases h1
   exact ⟨none,by simp [run_under hu,Instr.findNow],h2⟩
  | cons e rest =>
   rw [hents] at h1
   refine ⟨R,?_,h2⟩
   have:Instr.findNow d K (e::rest) 0=none:=by
    cases hk
    have:∀cc,Instr.sameNow d (.agg cc) e.key=none:=fun cc=>by cases d<;>rfl
    simp only [Instr.findNow,this]
   simp only [Sem.run_bind,run_under hu,Result.andThen_ok,this]
   exact h1
 ·cases hok
theorem entsA_sound (hH:HR N φ H w) {m:AV} {M:Value} (hm:RV φ H.length w m M) {es:List (AV×AV)} (h:entsA H m=some es) :
 ∃ents clock,((M=.map none∧ents=#[])∨∃r clock,M=.map (some r)∧w.heap[r]?=some (.map ents clock))∧EntsAt φ H.length w es ents clock:=by
 unfold entsA at h
 split at h
 ·cases h;cases hm
  exact ⟨#[],0,.inl ⟨rfl,rfl⟩,rfl,fun i k v hi=>by simp at hi,rfl,fun i e hi=>by simp at hi⟩
 ·split at h
  ·rename_i hblk
   cases h
   obtain ⟨L,ents,clock,h1,h2,h3,h4⟩:=hH.map _ _ hblk
   cases hm with
   | map hb hh =>
    have:=hh L h1 h2
    subst this
    exact ⟨ents,clock,.inr ⟨_,clock,rfl,h3⟩,h4⟩
  ·cases h
 ·cases h
theorem run_lookup_ents {t kt et:TypeId} {M K:Value} {ok:Bool} {ents:Array MapEntry} (hu:P.underlying t=some (.map kt et)) (hM:(M=.map none∧ents=#[])∨∃r clock,M=.map (some r)∧w.heap[r]?=some (.map ents clock))
 (hck:∀em,(Instr.checkKey em 10000 kt K).run P w=.ok () w) {R:Option (Nat×Value)} (hf:(Instr.findKey kt K ents.toList).run P w=.ok R w) :
 (Instr.lookup t M K ok).run P w=match R with
  | some (_,V)=>.ok (if ok then .tuple #[V,.bool true] else V) w
  | none=>((zeroValue et).run P w).andThen fun Z w'=>.ok (if ok then .tuple #[Z,.bool false] else Z) w':=by
 rcases hM with ⟨rfl,rfl⟩ | ⟨r,clock,rfl,hr⟩
 ·cases R with
  | none=>simp only [Instr.lookup,Sem.run_bind,run_under hu,Result.andThen_ok,Sem.run_pure,hck,hf]
  | some R=>simp only [Instr.lookup,Sem.run_bind,run_under hu,Result.andThen_ok,Sem.run_pure,hck,hf]
 ·have hg:(getObj r).run P w=.ok (.map ents clock) w:=by simp [getObj,Sem.run,hr]
  cases R with
  | none=>simp only [Instr.lookup,Sem.run_bind,run_under hu,Result.andThen_ok,hg,Sem.run_pure,hck,hf]
  | some R=>simp only [Instr.lookup,Sem.run_bind,run_under hu,Result.andThen_ok,hg,Sem.run_pure,hck,hf]
theorem lookupA_sound (hC:C.Fits P) (hH:HR N φ H w) {t:TypeId} {m k v:AV} {M K:Value} {ok:Bool} (hm:RV φ H.length w m M) (hk:RV φ H.length w k K) (h:lookupA P C H t m k ok=some v) :
 ∃V,(Instr.lookup t M K ok).run P w=.ok V w∧RV φ H.length w v V:=by
 unfold lookupA at h
 split at h
 ·rename_i kt et hu
  split at h
  ·rename_i hok
   split at h
   ·rename_i es hes
    obtain ⟨ents,_,h1,h2⟩:=entsA_sound hH hm hes
    have hck:=fun em=>keyOk_sound hC hk hok em
    split at h
    ·rename_i i v' _ hf
     obtain ⟨R,h3,h4⟩:=findA_sound hC hk hok h2 hf
     cases R with
     | none=>exact h4.elim
     | some R =>
      obtain ⟨j,V⟩:=R
      obtain ⟨rfl,hv⟩:=h4
      cases h
      refine ⟨if ok then .tuple #[V,.bool true] else V,?_,?_⟩
      ·rw [run_lookup_ents hu h1 hck h3]
      ·cases ok with
       | false=>simpa using hv
       | true =>
        refine .tup rfl (fun j v0 V0 h5 h6=>?_)
        match j with
        | 0=>simp at h5 h6;subst h5;subst h6;exact hv
        | 1=>simp at h5 h6;subst h5;subst h6;exact .bool _
        | j+2=>simp at h5
    ·rename_i z hf hz
     obtain ⟨R,h3,h4⟩:=findA_sound hC hk hok h2 hf
     cases R with
     | some R=>exact h4.elim
     | none =>
      cases h
      obtain ⟨i,Z,_,_,hrun,hrz,_⟩:=ofZero_sound (φ:=φ) (n:=H.length) (w:=w) hz
      refine ⟨if ok then .tuple #[Z,.bool false] else Z,?_,?_⟩
      ·rw [run_lookup_ents hu h1 hck h3]
       simp only [hrun,Result.andThen_ok]
      ·cases ok with
       | false=>simpa using hrz
       | true =>
        refine .tup rfl (fun j v0 V0 h5 h6=>?_)
        match j with
        | 0=>simp at h5 h6;subst h5;subst h6;exact hrz
        | 1=>simp at h5 h6;subst h5;subst h6;exact .bool _
        | j+2=>simp at h5
    ·cases h
   ·cases h
  ·cases h
 ·cases h
end Go.Proofs.Ev
namespace Go.Proofs.Ev
open Go.RowKit
variable {P:Program} {C:Cfg} {N:Low} {φ φ':Phi} {H H':Heap} {w w':World} {n:Nat}
theorem cellsEq_eq:∀{ks:List LK} {a b:List AV},conf ks a=true→conf ks b=true→cellsEq a b=true→a=b
 | [],[],[],_,_,_=>rfl
 | k::ks,x::a,y::b,h1,h2,h=>by
  simp only [conf,Bool.and_eq_true,beq_iff_eq] at h1 h2
  simp only [cellsEq,Bool.and_eq_true] at h
  have hxy:x=y:=by
   cases x<;>simp [cellKind] at h1<;>cases y<;>simp [cellKind] at h2<;>simp [cellEq] at h
   ·rw [h.1]
   ·have h3:=h2.1.trans h1.1.symm
    injection h3 with h3
    rw [h.1,h3]
   ·rw [h.1]
  rw [hxy,cellsEq_eq h1.2 h2.2 h.2]
theorem eqA_eq {t:TypeId} {x y:AV} (h:eqA P C t x y=some true):x=y:=by
 unfold eqA at h
 split at h
 ·split at h
  ·split at h
   ·rename_i hc
    rw [Bool.and_eq_true] at hc
    rw [cellsEq_eq hc.1 hc.2 (Option.some.inj h)]
   ·cases h
  ·cases h
 ·split at h
  ·simp at h;rw [h]
  ·cases h
 ·rfl
 all_goals first | (cases h;done) | (split at h<;>first | rfl | cases h)
theorem findA_eq {t:TypeId} {k:AV}:∀{es:List (AV×AV)} {i j:Nat} {v:AV},findA P C t k es i=some (some (j,v))→i≤j∧es[j-i]?=some (k,v)
 | [],i,j,v,h=>by simp [findA] at h
 | (k',v')::es,i,j,v,h=>by
  simp only [findA] at h
  have next:∀{b:Bool},(b=true→k'=k)→(match some b with | some true=>some (some (i,v')) | some false=>findA P C t k es (i+1) | none=>none)=some (some (j,v))→i≤j∧((k',v')::es)[j-i]?=some (k,v):=by
   intro b hb hr
   cases b with
   | true =>
    simp only [Option.some.injEq,Prod.mk.injEq] at hr
    obtain ⟨rfl,rfl⟩:=hr
    exact ⟨Nat.le_refl _,by simp [hb rfl]⟩
   | false =>
    obtain ⟨h1,h2⟩:=findA_eq hr
    refine ⟨by omega,?_⟩
    have:j-i=(j-(i+1))+1:=by omega
    rw [this];simpa using h2
  cases hm:keyEqA P C t k k' with
  | none=>rw [hm] at h;cases h
  | some b =>
   rw [hm] at h
   refine next (fun hb=>?_) h
   subst hb
   unfold keyEqA at hm
   split at hm
   ·split at hm
    ·rename_i e;subst e;simp at hm;rw [hm]
    ·cases hm
   ·simp at hm;rw [hm]
   ·exact (eqA_eq hm).symm
theorem run_setObj {r:Nat} {o o':Obj} (h:w.heap[r]?=some o) (hc:∀c T f,o≠.cells c T f):(setObj r o').run P w=.ok () (putBlk w r o'):=by
 cases o<;>first | exact absurd rfl (hc _ _ _) | simp [setObj,Sem.run,h,putBlk]
theorem updateA_sound (hC:C.Fits P) (hH:HR N φ H w) {base:Nat} {t:TypeId} {m k v:AV} {M K V:Value} (hm:RV φ H.length w m M) (hk:RV φ H.length w k K) (hv:RV φ H.length w v V) (h:updateA P C base H t m k v=some H') :
 ∃w',(Instr.mapUpdate t M K V).run P w=.ok () w'∧HR N φ H' w'∧Ext φ H.length w φ H'.length w'∧∀b,b<base→H'[b]?=H[b]?:=by
 unfold updateA at h
 split at h
 ·rename_i kt et b hu
  split at h
  ·rename_i hc
   obtain ⟨hb0,hok⟩:=hc
   split at h
   ·rename_i es hblk
    obtain ⟨L,ents,clock,h1,h2,h3,h4⟩:=hH.map _ _ hblk
    cases hm with
    | map hb hh =>
    have:=hh L h1 h2
    subst this
    have hg:(getObj L.cb).run P w=.ok (.map ents clock) w:=by simp [getObj,Sem.run,h3]
    have hck:=fun em=>keyOk_sound hC hk hok em
    split at h
    ·rename_i i v' hf
     cases h
     obtain ⟨R,h5,h6⟩:=findA_sound hC hk hok h4 hf
     obtain ⟨_,h7⟩:=findA_eq hf
     rw [Nat.sub_zero] at h7
     cases R with
     | none=>exact h6.elim
     | some R =>
      obtain ⟨j,V'⟩:=R
      obtain ⟨rfl,_⟩:=h6
      obtain ⟨e,h8,h9,_⟩:=h4.2.1 _ _ _ h7
      obtain ⟨K2,w2,h10,h11,hw2⟩:∃K2 w2,(Instr.keyThatStays e.key K).run P w=.ok K2 w2∧RV φ H.length w k K2∧(w2=w∨w2=w.drew):=by
       unfold Instr.keyThatStays
       split
       ·exact ⟨K,w,rfl,hk,.inl rfl⟩
       ·refine ⟨_,w.drew,by simp [Question.forced];rfl,?_,.inr rfl⟩
        split<;>assumption
      have hH2:HR N φ H w2:=by rcases hw2 with rfl | rfl;exact hH;exact hH.drew
      have hx2:Ext φ H.length w φ H.length w2:=by rcases hw2 with rfl | rfl;exact .refl;exact .drew
      have h32:w2.heap[L.cb]?=some (.map ents clock):=by rcases hw2 with rfl | rfl<;>exact h3
      have hil:=lt_of_get h7
      have hents:EntsAt φ H.length w2 (es.set i (k,v)) (ents.modify i fun e=>{ e with key:=K2,val:=V }) clock:=by
       refine ⟨by simp [h4.1],fun i2 k2 v2 hi2=>?_,by simpa using h4.2.2.1,fun i2 e2 hi2=>?_⟩
       rotate_left
       ·rw [Array.getElem?_modify] at hi2
        split at hi2
        ·cases hq:ents[i2]? with
         | none=>rw [hq] at hi2;cases hi2
         | some q=>rw [hq] at hi2;cases hi2;exact h4.2.2.2 i2 q hq
        ·exact h4.2.2.2 i2 e2 hi2
       by_cases e2:i=i2
       ·subst e2
        rw [List.getElem?_set_self hil] at hi2
        cases hi2
        exact ⟨_,by rw [Array.getElem?_modify,if_pos rfl,h8];rfl,h11.mono hx2,hv.mono hx2⟩
       ·rw [List.getElem?_set_ne e2] at hi2
        obtain ⟨e',a1,a2,a3⟩:=h4.2.1 _ _ _ hi2
        exact ⟨e',by rw [Array.getElem?_modify,if_neg e2];exact a1,a2.mono hx2,a3.mono hx2⟩
      refine ⟨putBlk w2 L.cb (.map (ents.modify i fun e=>{ e with key:=K2,val:=V }) clock),?_,hH2.put h1 _ _ (fun r hr=>by rw [h32] at hr;cases hr) (by simp) (by simp) ?_ (by simp),?_,heap_set_low hb0⟩
      ·have hso:=run_setObj (P:=P) (o':=.map (ents.modify i fun e=>{ e with key:=K2,val:=V }) clock) h32 (by simp)
       have he:((ents[i]?).map (·.key)).getD K=e.key:=by rw [h8];rfl
       simp only [Instr.mapUpdate,Sem.run_bind,run_under hu,Result.andThen_ok,hg,hck,h5,he,h10]
       exact hso
      ·intro es' e'
       cases e'
       exact ⟨_,clock,h2,rfl,hents⟩
      ·simpa using Ext.trans hx2 (Ext.put hH2 h1 _ (fun r hr=>by rw [h32] at hr;cases hr))
    ·rename_i hf
     cases h
     obtain ⟨R,h5,h6⟩:=findA_sound hC hk hok h4 hf
     cases R with
     | some R=>exact h6.elim
     | none =>
      have hents:EntsAt φ H.length w (es++[(k,v)]) (ents.push { key:=K,val:=V,born:=clock }) (clock+1):=by
       refine ⟨by simp [h4.1],fun i2 k2 v2 hi2=>?_,by simp [h4.2.2.1],fun i2 e2 hi2=>?_⟩
       rotate_left
       ·rw [Array.getElem?_push] at hi2
        split at hi2
        ·rename_i e3;cases hi2;rw [e3];exact h4.2.2.1
        ·exact h4.2.2.2 i2 e2 hi2
       rcases Nat.lt_or_ge i2 es.length with hlt | hge
       ·rw [List.getElem?_append_left hlt] at hi2
        obtain ⟨e',a1,a2,a3⟩:=h4.2.1 _ _ _ hi2
        exact ⟨e',by rw [Array.getElem?_push,if_neg (by rw [h4.1];omega)];exact a1,a2,a3⟩
       ·rw [List.getElem?_append_right hge] at hi2
        have:i2=es.length:=by have:=lt_of_get hi2;simp at this;omega
        subst this
        simp at hi2
        obtain ⟨rfl,rfl⟩:=hi2
        exact ⟨_,by rw [Array.getElem?_push,if_pos h4.1.symm],hk,hv⟩
      refine ⟨putBlk w L.cb (.map (ents.push { key:=K,val:=V,born:=clock }) (clock+1)),?_,hH.put h1 _ _ (fun r hr=>by rw [h3] at hr;cases hr) (by simp) (by simp) ?_ (by simp),by simpa using Ext.put hH h1 _ (fun r hr=>by rw [h3] at hr;cases hr),heap_set_low hb0⟩
      ·have hso:=run_setObj (P:=P) (o':=.map (ents.push { key:=K,val:=V,born:=clock }) (clock+1)) h3 (by simp)
       simp only [Instr.mapUpdate,Sem.run_bind,run_under hu,Result.andThen_ok,hg,hck,h5]
       exact hso
      ·intro es' e'
       cases e'
       exact ⟨_,_,h2,rfl,hents⟩
    ·cases h
   ·cases h
  ·cases h
 ·cases h
theorem mapEntryA_sound (hC:C.Fits P) (hH:HR N φ H w) {base:Nat} {t:TypeId} {m k v:AV} {M K:Value} (hm:RV φ H.length w m M) (hk:RV φ H.length w k K) (h:mapEntryA P C base H t m k=some (v,H')) :
 ∃V w',(Instr.mapEntry t M K).run P w=.ok V w'∧RV φ H'.length w' v V∧HR N φ H' w'∧Ext φ H.length w φ H'.length w'∧∀b,b<base→H'[b]?=H[b]?:=by
 unfold mapEntryA at h
 split at h
 ·rename_i kt et b hu
  split at h
  ·rename_i hc
   obtain ⟨hb0,hok⟩:=hc
   split at h
   ·rename_i es hblk
    obtain ⟨L,ents,clock,h1,h2,h3,h4⟩:=hH.map _ _ hblk
    cases hm with
    | map hb hh =>
    have:=hh L h1 h2
    subst this
    have hg:(getObj L.cb).run P w=.ok (.map ents clock) w:=by simp [getObj,Sem.run,h3]
    have hck:=fun em=>keyOk_sound hC hk hok em
    split at h
    ·rename_i i v' hf
     cases h
     obtain ⟨R,h5,h6⟩:=findA_sound hC hk hok h4 hf
     obtain ⟨_,h7⟩:=findA_eq hf
     rw [Nat.sub_zero] at h7
     cases R with
     | none=>exact h6.elim
     | some R =>
      obtain ⟨j,V'⟩:=R
      obtain ⟨rfl,hv⟩:=h6
      obtain ⟨e,h8,h9,h9v⟩:=h4.2.1 _ _ _ h7
      obtain ⟨K2,w2,h10,h11,hw2⟩:∃K2 w2,(Instr.keyThatStays e.key K).run P w=.ok K2 w2∧RV φ H.length w k K2∧(w2=w∨w2=w.drew):=by
       unfold Instr.keyThatStays
       split
       ·exact ⟨K,w,rfl,hk,.inl rfl⟩
       ·refine ⟨_,w.drew,by simp [Question.forced];rfl,?_,.inr rfl⟩
        split<;>assumption
      have hH2:HR N φ H w2:=by rcases hw2 with rfl | rfl;exact hH;exact hH.drew
      have hx2:Ext φ H.length w φ H.length w2:=by rcases hw2 with rfl | rfl;exact .refl;exact .drew
      have h32:w2.heap[L.cb]?=some (.map ents clock):=by rcases hw2 with rfl | rfl<;>exact h3
      have hil:=lt_of_get h7
      have hents:EntsAt φ H.length w2 (es.set i (k,v')) (ents.modify i fun e=>{ e with key:=K2 }) clock:=by
       refine ⟨by simp [h4.1],fun i2 k2 v2 hi2=>?_,by simpa using h4.2.2.1,fun i2 e2 hi2=>?_⟩
       rotate_left
       ·rw [Array.getElem?_modify] at hi2
        split at hi2
        ·cases hq:ents[i2]? with
         | none=>rw [hq] at hi2;cases hi2
         | some q=>rw [hq] at hi2;cases hi2;exact h4.2.2.2 i2 q hq
        ·exact h4.2.2.2 i2 e2 hi2
       by_cases e2:i=i2
       ·subst e2
        rw [List.getElem?_set_self hil] at hi2
        cases hi2
        exact ⟨{ e with key:=K2 },by rw [Array.getElem?_modify,if_pos rfl,h8];rfl,h11.mono hx2,h9v.mono hx2⟩
       ·rw [List.getElem?_set_ne e2] at hi2
        obtain ⟨e',a1,a2,a3⟩:=h4.2.1 _ _ _ hi2
        exact ⟨e',by rw [Array.getElem?_modify,if_neg e2];exact a1,a2.mono hx2,a3.mono hx2⟩
      have hxx:Ext φ H.length w φ (H.set b (.map (es.set i (k,v')))).length (putBlk w2 L.cb (.map (ents.modify i fun e=>{ e with key:=K2 }) clock)):=by
       simpa using Ext.trans hx2 (Ext.put hH2 h1 _ (fun r hr=>by rw [h32] at hr;cases hr))
      refine ⟨.tuple #[V',.int .i64 i],putBlk w2 L.cb (.map (ents.modify i fun e=>{ e with key:=K2 }) clock),?_,?_,hH2.put h1 _ _ (fun r hr=>by rw [h32] at hr;cases hr) (by simp) (by simp) ?_ (by simp),hxx,heap_set_low hb0⟩
      ·have hso:=run_setObj (P:=P) (o':=.map (ents.modify i fun e=>{ e with key:=K2 }) clock) h32 (by simp)
       have he:((ents[i]?).map (·.key)).getD K=e.key:=by rw [h8];rfl
       have hbn:((ents[i]?).map fun e=>(e.born:Int)).getD 0=i:=by rw [h8];exact congrArg (fun n:Nat=>(n:Int)) (h4.2.2.2 i e h8)
       simp only [Instr.mapEntry,Sem.run_bind,run_under hu,Result.andThen_ok,hg,hck,h5,he,h10,hso,Sem.run_pure,hbn]
       rfl
      ·refine .tup rfl fun j x X hj hX=>?_
       cases j with
       | zero=>simp at hj hX;subst hj;subst hX;exact hv.mono hxx
       | succ j =>
        cases j with
        | zero=>simp at hj hX;subst hj;subst hX;exact .int _ _
        | succ j=>simp at hj
      ·intro es' e'
       cases e'
       exact ⟨_,clock,h2,rfl,hents⟩
    ·rename_i hf
     split at h
     ·rename_i z hz
      cases h
      obtain ⟨R,h5,h6⟩:=findA_sound hC hk hok h4 hf
      obtain ⟨_,Z,_,_,hzr,hzv,_⟩:=ofZero_sound (φ:=φ) (n:=H.length) (w:=w) hz
      cases R with
      | some R=>exact h6.elim
      | none =>
       have hents:EntsAt φ H.length w (es++[(k,z)]) (ents.push { key:=K,val:=Z,born:=clock }) (clock+1):=by
        refine ⟨by simp [h4.1],fun i2 k2 v2 hi2=>?_,by simp [h4.2.2.1],fun i2 e2 hi2=>?_⟩
        rotate_left
        ·rw [Array.getElem?_push] at hi2
         split at hi2
         ·rename_i e3;cases hi2;rw [e3];exact h4.2.2.1
         ·exact h4.2.2.2 i2 e2 hi2
        rcases Nat.lt_or_ge i2 es.length with hlt | hge
        ·rw [List.getElem?_append_left hlt] at hi2
         obtain ⟨e',a1,a2,a3⟩:=h4.2.1 _ _ _ hi2
         exact ⟨e',by rw [Array.getElem?_push,if_neg (by rw [h4.1];omega)];exact a1,a2,a3⟩
        ·rw [List.getElem?_append_right hge] at hi2
         have:i2=es.length:=by have:=lt_of_get hi2;simp at this;omega
         subst this
         simp at hi2
         obtain ⟨rfl,rfl⟩:=hi2
         exact ⟨_,by rw [Array.getElem?_push,if_pos h4.1.symm],hk,hzv⟩
       have hxx:Ext φ H.length w φ (H.set b (.map (es++[(k,z)]))).length (putBlk w L.cb (.map (ents.push { key:=K,val:=Z,born:=clock }) (clock+1))):=by
        simpa using Ext.put hH h1 _ (fun r hr=>by rw [h3] at hr;cases hr)
       refine ⟨.tuple #[Z,.int .i64 clock],putBlk w L.cb (.map (ents.push { key:=K,val:=Z,born:=clock }) (clock+1)),?_,?_,hH.put h1 _ _ (fun r hr=>by rw [h3] at hr;cases hr) (by simp) (by simp) ?_ (by simp),hxx,heap_set_low hb0⟩
       ·have hso:=run_setObj (P:=P) (o':=.map (ents.push { key:=K,val:=Z,born:=clock }) (clock+1)) h3 (by simp)
        simp only [Instr.mapEntry,Sem.run_bind,run_under hu,Result.andThen_ok,hg,hck,h5,hzr,hso,Sem.run_pure]
        rfl
       ·refine .tup rfl fun j x X hj hX=>?_
        cases j with
        | zero=>simp at hj hX;subst hj;subst hX;exact hzv.mono hxx
        | succ j =>
         cases j with
         | zero=>simp at hj hX;subst hj;subst hX;rw [h4.2.2.1,h4.1];exact .int _ _
         | succ j=>simp at hj
       ·intro es' e'
        cases e'
        exact ⟨_,_,h2,rfl,hents⟩
     ·cases h
    ·cases h
   ·cases h
  ·cases h
 ·cases h
theorem entryStoreA_sound (hH:HR N φ H w) {base:Nat} {t:TypeId} {m s x:AV} {M S X:Value} (hm:RV φ H.length w m M) (hs:RV φ H.length w s S) (hx:RV φ H.length w x X) (h:entryStoreA base H m s x=some H') :
 ∃w',(Instr.entryStore t M S X).run P w=.ok () w'∧HR N φ H' w'∧Ext φ H.length w φ H'.length w'∧∀b,b<base→H'[b]?=H[b]?:=by
 unfold entryStoreA at h
 split at h
 ·rename_i b num
  split at h
  ·rename_i hc
   obtain ⟨hb0,hn0⟩:=hc
   split at h
   ·rename_i es hblk
    obtain ⟨L,ents,clock,h1,h2,h3,h4⟩:=hH.map _ _ hblk
    cases hm with
    | map hb hh =>
    cases hs
    have:=hh L h1 h2
    subst this
    have hg:(getObj L.cb).run P w=.ok (.map ents clock) w:=by simp [getObj,Sem.run,h3]
    split at h
    ·rename_i k v0 hget
     cases h
     obtain ⟨e,h8,h9,_⟩:=h4.2.1 _ _ _ hget
     have hil:=lt_of_get hget
     have hsz:num.toNat<ents.size:=by rw [h4.1];exact hil
     have hfi:ents.findIdx? (fun e=>(e.born:Int)==num)=some num.toNat:=by
      rw [Array.findIdx?_eq_some_iff_getElem]
      have hb:∀i (hi:i<ents.size),ents[i].born=i:=fun i hi=>h4.2.2.2 i _ (Array.getElem?_eq_getElem hi)
      refine ⟨hsz,?_,fun j hj=>?_⟩
      ·rw [hb _ hsz];simp;omega
      ·rw [hb j (by omega)];simp;omega
     have hents:EntsAt φ H.length w (es.set num.toNat (k,x)) (ents.modify num.toNat fun e=>{ e with val:=X }) clock:=by
      refine ⟨by simp [h4.1],fun i2 k2 v2 hi2=>?_,by simpa using h4.2.2.1,fun i2 e2 hi2=>?_⟩
      rotate_left
      ·rw [Array.getElem?_modify] at hi2
       split at hi2
       ·cases hq:ents[i2]? with
        | none=>rw [hq] at hi2;cases hi2
        | some q=>rw [hq] at hi2;cases hi2;exact h4.2.2.2 i2 q hq
       ·exact h4.2.2.2 i2 e2 hi2
      by_cases e2:num.toNat=i2
      ·subst e2
       rw [List.getElem?_set_self hil] at hi2
       cases hi2
       exact ⟨{ e with val:=X },by rw [Array.getElem?_modify,if_pos rfl,h8];rfl,h9,hx⟩
      ·rw [List.getElem?_set_ne e2] at hi2
       obtain ⟨e',a1,a2,a3⟩:=h4.2.1 _ _ _ hi2
       exact ⟨e',by rw [Array.getElem?_modify,if_neg e2];exact a1,a2,a3⟩
     refine ⟨putBlk w L.cb (.map (ents.modify num.toNat fun e=>{ e with val:=X }) clock),?_,hH.put h1 _ _ (fun r hr=>by rw [h3] at hr;cases hr) (by simp) (by simp) ?_ (by simp),by simpa using Ext.put hH h1 _ (fun r hr=>by rw [h3] at hr;cases hr),heap_set_low hb0⟩
     ·have hso:=run_setObj (P:=P) (o':=.map (ents.modify num.toNat fun e=>{ e with val:=X }) clock) h3 (by simp)
      simp only [Instr.entryStore,Sem.run_bind,Result.andThen_ok,hg,asInt,asIntOf,Sem.run_pure,hfi]
      exact hso
     ·intro es' e'
      cases e'
      exact ⟨_,clock,h2,rfl,hents⟩
    ·cases h
   ·cases h
  ·cases h
 ·cases h
end Go.Proofs.Ev
namespace Go.Proofs.Ev
open Go.RowKit
variable {P:Program} {N:Low} {φ φ':Phi} {H H':Heap} {w w':World} {n:Nat}
theorem run_getAny {k:Nat} {o:Obj} (h:w.heap[k]?=some o) (hc:∀c T fr,o≠.cells c T fr:=by simp [itObj]):(getObj k).run P w=.ok o w:=by
 cases o with
 | cells c T fr=>exact absurd rfl (hc c T fr)
 | _=>simp [getObj,Sem.run,h]
theorem run_setAny {k:Nat} {o':Obj} (o:Obj) (h:w.heap[k]?=some o') (hc:∀c T fr,o'≠.cells c T fr:=by simp [itObj]):(setObj k o).run P w=.ok () (putBlk w k o):=by
 cases o' with
 | cells c T fr=>exact absurd rfl (hc c T fr)
 | _=>simp [setObj,Sem.run,h,putBlk]
theorem run_newAny (o:Obj):(newObj o).run P w=.ok w.heap.size (w.alloc o):=rfl
theorem ents_nil {ents:Array MapEntry} {clock:Nat} (h:EntsAt φ n w [] ents clock):ents=#[]∧clock=0:=by
 obtain ⟨h1,_,h3,_⟩:=h
 have:ents=#[]:=by simpa using h1
 subst this
 exact ⟨rfl,h3⟩
theorem ents_one {k v:AV} {ents:Array MapEntry} {clock:Nat} (h:EntsAt φ n w [(k,v)] ents clock):∃e:MapEntry,ents=#[e]∧e.born=0∧RV φ n w k e.key∧RV φ n w v e.val∧clock=1:=by
 obtain ⟨h1,h2,h3,h4⟩:=h
 obtain ⟨e,h5,h6,h7⟩:=h2 0 k v rfl
 have hs:ents.size=1:=by simpa using h1
 have he:ents=#[e]:=by
  apply Array.ext
  ·simp [hs]
  ·intro i hi hi'
   have:i=0:=by simp at hi';exact hi'
   subst this
   have:=(Array.getElem?_eq_some_iff.1 h5).2
   simpa using this
 subst he
 exact ⟨e,rfl,by simpa using h4 0 e rfl,h6,h7,by simpa using h3⟩
theorem rangeA_sound (hH:HR N φ H w) {base:Nat} (hbase:base≤H.length) {t:TypeId} {x v:AV} {X:Value} (hx:RV φ H.length w x X) (h:rangeA P H t x=some (v,H')) :
 ∃V w' φ',(Instr.range t X).run P w=.ok V w'∧RV φ' H'.length w' v V∧HR N φ' H' w'∧Ext φ H.length w φ' H'.length w'∧∀b,b<base→H'[b]?=H[b]?:=by
 have lay:∀(m:AV) (M:Option Nat) (k:Nat),RV φ H.length w m (.map M)→(Instr.range t X).run P w=.ok (.pointer (some ⟨w.heap.size,0,none⟩)) (w.alloc (itObj M k 0))→
  ∃V w' φ',(Instr.range t X).run P w=.ok V w'∧RV φ' (H++[Blk.it m k 0]).length w' (.ptr H.length 0 0 0 0) V∧HR N φ' (H++[Blk.it m k 0]) w'∧Ext φ H.length w φ' (H++[Blk.it m k 0]).length w'∧∀b,b<base→(H++[Blk.it m k 0])[b]?=H[b]?:=by
  intro m M k hm hr
  refine ⟨_,_,addLoc φ H.length ⟨0,w.heap.size,0⟩,hr,?_,hH.alloc (itObj M k 0) 0 0 (.it m k 0) (by simp) (by simp) (by simp) (by simp) (fun m' k' st e=>by cases e;exact ⟨M,rfl,rfl,hm⟩),by simpa using Ext.alloc (itObj M k 0) 0 0,fun b hb=>List.getElem?_append_left (by omega)⟩
  refine .ptr (by simp) fun L hL=>?_
  simp only [addLoc,if_true,Option.some.injEq] at hL
  subst hL
  exact ⟨Nat.le_refl _,fun _=>by simp⟩
 unfold rangeA at h
 split at h
 ·rename_i kt et hu
  cases h
  cases hx
  refine lay .nilm none 0 .nilm ?_
  simp [Instr.range,run_under hu,run_newAny,Result.andThen,itObj]
 ·rename_i kt et b hu
  split at h
  ·rename_i es hblk
   split at h
   ·rename_i hes
    cases h
    have hx':=hx
    obtain ⟨L,ents,clock,h1,h2,h3,h4⟩:=hH.map _ _ hblk
    cases hx with
    | map hb hh =>
     rename_i cb
     have:=hh L h1 h2
     subst this
     have hcl:clock=es.length:=by rw [h4.2.2.1,h4.1]
     subst hcl
     refine lay (.map b) (some L.cb) es.length hx' ?_
     simp [Instr.range,run_under hu,run_getAny h3,run_newAny,Result.andThen,itObj]
   ·cases h
  ·cases h
 ·cases h
theorem nextA_sound (hH:HR N φ H w) {base:Nat} {x v:AV} {X:Value} (hx:RV φ H.length w x X) (h:nextA base H x=some (v,H')) (ty:TypeId) :
 ∃V w' φ',(Instr.next X false ty).run P w=.ok V w'∧RV φ' H'.length w' v V∧HR N φ' H' w'∧Ext φ H.length w φ' H'.length w'∧∀b,b<base→H'[b]?=H[b]?:=by
 unfold nextA at h
 split at h
 ·rename_i b
  split at h
  ·rename_i m k st hblk
   obtain ⟨L,M,h1,h2,h3,h4⟩:=hH.it _ _ _ _ hblk
   cases hx with
   | ptr hb hh =>
    rename_i a
    have ha:=(hh L h1).2 h2.symm
    simp only [Nat.zero_mul,Nat.zero_add] at ha
    subst ha
    have over:(Instr.next (.pointer (some ⟨L.cb,0,none⟩)) false ty).run P w=.ok (.tuple #[.bool false]) w→
     ∃V w' φ',(Instr.next (.pointer (some ⟨L.cb,0,none⟩)) false ty).run P w=.ok V w'∧RV φ' H.length w' (.tup [.bool false]) V∧HR N φ' H w'∧Ext φ H.length w φ' H.length w'∧∀b,b<base→H[b]?=H[b]?:=by
     intro hr
     refine ⟨_,w,φ,hr,.tup rfl (fun j v V hj hV=>?_),hH,.refl,fun _ _=>rfl⟩
     cases j with
     | zero=>simp at hj hV;subst hj;subst hV;exact .bool _
     | succ j=>simp at hj
    split at h
    ·cases h
     cases h4
     refine over ?_
     simp [Instr.next,run_getAny h3,itObj,Result.andThen]
    ·rename_i mb hes
     split at h
     ·rename_i hst
      cases h
      subst hst
      unfold entsA at hes
      simp only at hes
      split at hes
      ·rename_i es hmb
       cases hes
       obtain ⟨Lm,ents,clock,g1,g2,g3,g4⟩:=hH.map _ _ hmb
       cases h4 with
       | map hb2 hh2 =>
        rename_i cb
        have:=hh2 Lm g1 g2
        subst this
        obtain ⟨rfl,rfl⟩:=ents_nil g4
        refine over ?_
        simp [Instr.next,run_getAny h3,run_getAny g3,itObj,Result.andThen,Question.forced]
      ·cases hes
     ·cases h
    ·rename_i mb k1 v1 hes
     split at h
     ·rename_i hk
      subst hk
      unfold entsA at hes
      simp only at hes
      split at hes
      ·rename_i es hmb
       cases hes
       obtain ⟨Lm,ents,clock,g1,g2,g3,g4⟩:=hH.map _ _ hmb
       have h4':=h4
       cases h4 with
       | map hb2 hh2 =>
        rename_i cb
        have:=hh2 Lm g1 g2
        subst this
        obtain ⟨e,rfl,hbn,hk,hv,rfl⟩:=ents_one g4
        split at h
        ·rename_i hst
         subst hst
         split at h
         ·rename_i hbb
          cases h
          have hput:=hH.put h1 (itObj (some Lm.cb) 1 1) (.it (.map mb) 1 1) (fun r hr=>by rw [h3] at hr;cases hr) (by simp) (by simp) (by simp) (by simp) (fun m' k' st' e=>by cases e;exact ⟨_,h2,rfl,h4'⟩)
          have hext:Ext φ H.length w φ H.length (putBlk w L.cb (itObj (some Lm.cb) 1 1)):=Ext.put hH h1 _ (fun r hr=>by rw [h3] at hr;cases hr)
          refine ⟨.tuple #[.bool true,e.key,e.val],_,φ,?_,?_,hput,by simpa using hext,fun k hk=>List.getElem?_set_ne (by omega)⟩
          ·have hset:=fun o:Obj=>run_setAny (P:=P) o h3
           simp only [itObj,if_true] at h3 hset
           simp [Instr.next,run_getAny h3,run_getAny g3,Result.andThen,Question.forced,hbn,hset,itObj]
          ·refine .tup rfl (fun j v V hj hV=>?_)
           match j with
           | 0=>simp at hj hV;subst hj;subst hV;exact .bool _
           | 1=>simp at hj hV;subst hj;subst hV;simpa using hk.mono hext
           | 2=>simp at hj hV;subst hj;subst hV;simpa using hv.mono hext
           | j+3=>simp at hj
         ·cases h
        ·rename_i hst
         cases h
         refine over ?_
         simp only [itObj,if_neg hst] at h3
         simp [Instr.next,run_getAny h3,run_getAny g3,Result.andThen,Question.forced,hbn]
      ·cases hes
     ·cases h
    ·cases h
  ·cases h
 ·cases h
theorem entryA_sound (hH:HR N φ H w) {x v:AV} {X:Value} (hx:RV φ H.length w x X) (h:entryA H x=some v):∃V,(Instr.entry X).run P w=.ok V w∧RV φ H.length w v V:=by
 unfold entryA at h
 split at h
 ·rename_i b
  split at h
  ·rename_i mb k st hblk
   split at h
   ·rename_i hc
    obtain ⟨rfl,rfl⟩:=hc
    split at h
    ·rename_i k1 v1 hmb
     cases h
     obtain ⟨L,M,h1,h2,h3,h4⟩:=hH.it _ _ _ _ hblk
     obtain ⟨Lm,ents,clock,g1,g2,g3,g4⟩:=hH.map _ _ hmb
     cases hx with
     | ptr hb hh =>
      rename_i a
      have ha:=(hh L h1).2 h2.symm
      simp only [Nat.zero_mul,Nat.zero_add] at ha
      subst ha
      cases h4 with
      | map hb2 hh2 =>
       rename_i cb
       have:=hh2 Lm g1 g2
       subst this
       obtain ⟨e,rfl,hbn,hk,hv,rfl⟩:=ents_one g4
       refine ⟨.tuple #[e.key,e.val],?_,.tup rfl (fun j v V hj hV=>?_)⟩
       ·simp [Instr.entry,run_getAny h3,run_getAny g3,Result.andThen,itObj,hbn]
       ·match j with
        | 0=>simp at hj hV;subst hj;subst hV;exact hk
        | 1=>simp at hj hV;subst hj;subst hV;exact hv
        | j+2=>simp at hj
    ·cases h
   ·cases h
  ·cases h
 ·cases h
end Go.Proofs.Ev
namespace Go.Proofs.Ev
open Go.RowKit
variable {P:Program} {C:Cfg} {N:Low} {φ φ':Phi} {H H':Heap} {w w':World} {n:Nat}
theorem run_v {s:Sem Value} {V:Value} (h:s.run P w=.ok V w'):(do pure (Next.value (←s)):Sem Next).run P w=.ok (.value V) w':=by
 simp [h]
theorem run_u {s:Sem Unit} (h:s.run P w=.ok () w'):(do s;pure Next.skip:Sem Next).run P w=.ok .skip w':=by
 simp [h]
theorem opt_rel {slots:List AV} {a:Act} (hs:SlotsAt φ n w slots a.tmps) (x:Option Operand):OptRV φ n w (x.map (evalOperand slots)) (x.map a.eval):=by
 cases x with
 | none=>trivial
 | some x=>exact operand_rel hs x
theorem parts_rel {slots:List AV} {a:Act} (hs:SlotsAt φ n w slots a.tmps) (ps:Array (Nat×Operand)) :
 Two (fun p Q=>p.1=Q.1∧RV φ n w p.2 Q.2) (ps.toList.map fun (i,x)=>(i,evalOperand slots x)) (ps.map fun (i,x)=>(i,a.eval x)).toList:=by
 rw [Array.toList_map]
 exact Two.map (fun (p:Nat×Operand)=>(p.1,evalOperand slots p.2)) (fun (p:Nat×Operand)=>(p.1,a.eval p.2)) (fun x=>⟨rfl,operand_rel hs x.2⟩) ps.toList
theorem len_congr {ats:Array TypeId} {args:Array Value} {t ty:TypeId} {X:Value} (h:ats[0]?=some t) (h':args[0]?=some X):Builtin.len_ ats ty args=Builtin.len_ #[t] ty #[X]:=by
 unfold Builtin.len_
 rw [h,h']
 rfl
theorem clear_congr {ats:Array TypeId} {args:Array Value} {t ty:TypeId} {X:Value} (h:ats[0]?=some t) (h':args[0]?=some X):Builtin.clear_ ats ty args=Builtin.clear_ #[t] ty #[X]:=by
 unfold Builtin.clear_
 rw [h,h']
 rfl
theorem append_congr {ats:Array TypeId} {args:Array Value} {ty:TypeId} {S X:Value} (h:args[0]?=some S) (h':args[1]?=some X):Builtin.append_ ats ty args=Builtin.append_ ats ty #[S,X]:=by
 unfold Builtin.append_
 rw [h,h']
 rfl
theorem wrap_small {l:Int} (h0:0≤l) (h:l≤2^46):IntKind.i64.wrap l=l:=IntWalk.i64_in _ (by omega)
theorem makeSliceA_sound (hH:HR N φ H w) {base:Nat} (hbase:base≤H.length) {t:TypeId} {len cap v:AV} {L C:Value} (hl:RV φ H.length w len L) (hc:RV φ H.length w cap C) (h:makeSliceA P H t len cap=some (v,H')) :
 ∃V w' φ',(Instr.makeSlice t L C).run P w=.ok V w'∧RV φ' H'.length w' v V∧HR N φ' H' w'∧Ext φ H.length w φ' H'.length w'∧∀b,b<base→H'[b]?=H[b]?:=by
 unfold makeSliceA at h
 split at h
 ·rename_i elem l c hu
  split at h
  ·rename_i s by_ z hs hby hz
   split at h
   ·rename_i hcond
    obtain ⟨hlc,h0,hb,hbig,hzl,hpos⟩:=hcond
    cases h
    cases hl;cases hc
    obtain ⟨ib,hib,rfl⟩:=bytesOf_some hby
    obtain ⟨i,Z,hi,hiz,hrun,hrz,hlz⟩:=ofZero_sound (φ:=φ) (n:=H.length) (w:=w) hz
    have hw:=wrap_small h0 (Int.le_trans hlc hbig)
    have hwc:=wrap_small (Int.le_trans h0 hlc) hbig
    have hle:l.toNat≤c.toNat:=by omega
    obtain ⟨cs,hcs⟩:∃cs:Array Value,cs=(Array.range (c.toNat*s)).map (Z.cells[· % Z.cells.size]!):=⟨_,rfl⟩
    have hrows:RowsAt φ H.length w s (List.replicate l.toNat z.cells) cs:=by
     have h1:RowsAt φ H.length w s (List.replicate c.toNat z.cells) cs:=by rw [hcs];exact rows_zero hrz hlz hzl c.toNat
     refine ⟨Nat.le_trans (by simpa using Nat.mul_le_mul_right s hle) h1.1,fun i row hi=>h1.2 i row ?_⟩
     rw [List.getElem?_replicate] at hi ⊢
     split at hi
     ·rw [if_pos (by omega)];exact hi
     ·cases hi
    have hrun':(Instr.makeSlice t (.int .i64 l) (.int .i64 c)).run P w=.ok (.slice (some ⟨w.heap.size,0,none⟩) l.toNat c.toNat) (w.alloc (.cells cs elem (0,0))):=by
     have e1:¬l<0:=by omega
     have e3:¬c<0:=by omega
     have e4:¬c<l:=by omega
     have e2:¬(281474976710656<(ib.bytes:Int)*c):=by omega
     by_cases hn:c.toNat*s=0
     ·have hr0:∀f:Nat→Value,(Array.range 0).map f=#[]:=fun f=>by apply Array.ext';simp
      have hc0:cs=#[]:=by rw [hcs,hn,hr0]
      simp [hr0,Instr.makeSlice,run_under hu,asInt,asIntOf,typeInfo,hib,hw,hwc,e1,e2,e3,e4,run_sizeOf hs,hn,newRow,hc0]
     ·simp [Instr.makeSlice,run_under hu,asInt,asIntOf,typeInfo,hib,hw,hwc,e1,e2,e3,e4,run_sizeOf hs,hn,newRow,hrun,hcs]
    have hal:=hH.alloc (.cells cs elem (0,0)) 0 cs.size (.rows s 0 (List.replicate l.toNat z.cells)) (by simp) (by intro a b c e;cases e;exact ⟨cs,elem,(0,0),rfl,rfl,rfl,.zero rfl,hrows⟩) (by simp) (by simp)
    refine ⟨_,_,_,hrun',.sl (by simp) hle fun L hL=>?_,hal,by simpa using Ext.alloc (.cells cs elem (0,0)) 0 cs.size,fun b hb=>List.getElem?_append_left (by omega)⟩
    simp only [addLoc,if_true,Option.some.injEq] at hL
    subst hL
    exact ⟨Nat.le_refl _,fun _=>⟨by simp,by rw [hcs];simp⟩⟩
   ·cases h
  ·cases h
 ·cases h
theorem opA_sound (hC:C.Fits P) (htag:TagOK P N) (hH:HR N φ H w) {base:Nat} (hbase:base≤H.length) {slots:List AV} {a:Act} (hs:SlotsAt φ H.length w slots a.tmps) (o:Oper) {v:AV} (h:opA P C base H (evalOperand slots) o=some (v,H')) :
 Good N base φ H w v H' ((execOp a.eval o).run P w):=by
 have R:=fun x=>operand_rel hs x
 have val:∀{s:Sem Value} {r:Option AV},retV H r=some (v,H')→(∀x,r=some x→∃V,s.run P w=.ok V w∧RV φ H.length w x V)→
  Good N base φ H w v H' ((do pure (Next.value (←s)):Sem Next).run P w):=by
  intro s r hr hf
  cases r with
  | none=>cases hr
  | some x =>
   cases hr
   obtain ⟨V,h1,h2⟩:=hf _ rfl
   exact good_val hH (run_v h1) h2
 have unt:∀{s:Sem Unit} {r:Option Heap},retU r=some (v,H')→(∀h',r=some h'→∃w' φ',s.run P w=.ok () w'∧HR N φ' h' w'∧Ext φ H.length w φ' h'.length w'∧∀b,b<base→h'[b]?=H[b]?)→
  Good N base φ H w v H' ((do s;pure Next.skip:Sem Next).run P w):=by
  intro s r hr hf
  cases r with
  | none=>cases hr
  | some h' =>
   cases hr
   obtain ⟨w',φ',h1,h2,h3,h4⟩:=hf _ rfl
   exact ⟨_,w',φ',.inr ⟨run_u h1,rfl⟩,.tup rfl (fun j v V hj=>by simp at hj),h2,h3,h4⟩
 unfold opA at h
 unfold execOp
 dsimp only
 split at h
 ·rename_i x ho;rw [ho];cases h;exact good_val hH rfl (R x)
 ·rename_i x ho;rw [ho];cases h;exact good_val hH rfl (R x)
 ·rename_i c x y ho;rw [ho]
  split at h
  ·rename_i t ht
   cases h
   have hc:=R c
   rw [ht] at hc
   generalize hcv:a.eval c=cv at hc
   cases hc
   refine good_val hH (V:=if t then a.eval x else a.eval y) (by simp [hcv,asBool]) ?_
   cases t
   ·exact R y
   ·exact R x
  ·cases h
 ·rename_i t ho;rw [ho]
  split at h
  ·rename_i z hz
   split at h
   ·cases h
    obtain ⟨i,Z,hi,hiz,hrun,hrz,hlz⟩:=ofZero_sound (φ:=φ) (n:=H.length) (w:=w) hz
    refine alloc_goodG (tagG P t) hH hbase hrz hlz t (tagG_row htag) ?_
    simp [Instr.alloc,hrun,newVar,newRow]
   ·cases h
  ·cases h
 ·rename_i t x ho;rw [ho]
  split at h
  ·rename_i hl
   cases h
   exact alloc_good hH hbase (R x) hl t (by simp [Instr.box,newVar,newRow])
  ·cases h
 ·rename_i t ps ho;rw [ho]
  exact val h fun x hx=>buildA_sound (parts_rel hs ps) hx
 ·rename_i t len ps ho;rw [ho]
  cases hb:buildSliceA P t len (ps.toList.map fun (i,x)=>(i,evalOperand slots x)) with
  | none=>rw [hb] at h;cases h
  | some x =>
   rw [hb] at h;cases h
   obtain ⟨V,w',h1,h2,h3,h4⟩:=buildSliceA_sound hH (parts_rel hs ps) hb
   exact ⟨V,w',φ,.inl (run_v h1),h2,h3,h4,fun _ _=>rfl⟩
 ·rename_i t x ho;rw [ho]
  exact val h fun y hy=>loadA_sound hH (R x) hy
 ·rename_i t x y ho;rw [ho]
  exact unt h fun h' hy=>by
   obtain ⟨w',h1,h2,h3,h4⟩:=storeA_sound hH (R x) (R y) hy
   exact ⟨w',φ,h1,h2,h3,h4⟩
 ·rename_i x ho;rw [ho]
  have hx:=R x
  generalize hX:a.eval x=X at hx
  simp only [hX]
  split at h
  ·rename_i hx';rw [hx'] at hx;cases h;cases hx with | ptr hb hh=>exact good_val hH rfl (.ptr hb hh)
  ·rename_i hx';rw [hx'] at hx;cases h;cases hx with | eptr Vs a b c=>exact good_val hH rfl (.eptr Vs a b c)
  ·rename_i hx';rw [hx'] at hx;cases h;cases hx with | fn a b=>exact good_val hH rfl (.fn a b)
  ·cases h
 ·rename_i op t x y ty ho;rw [ho]
  exact val h fun z hz=>binA_sound hC (R x) (R y) hz x y
 ·rename_i op t x ho;rw [ho]
  exact val h fun z hz=>unA_sound (R x) hz
 ·rename_i s d x ho;rw [ho]
  obtain ⟨V,w',φ',h1,h2,h3,h4,h5⟩:=convertA_sound hH hbase (R x).denil h
  exact ⟨V,w',φ',.inl (run_v h1),h2,h3,h4,h5⟩
 ·rename_i f first caps ho;rw [ho]
  split at h
  ·rename_i hf
   cases h
   have hf':first=#[]:=by simpa using hf
   subst hf'
   refine good_val hH (V:=.func (.func f) #[] (caps.map a.eval)) (by simp [Instr.makeFunc]) (.fn (by simp) (fun j v V hj hV=>?_))
   rw [List.getElem?_map,Array.getElem?_toList] at hj
   rw [Array.getElem?_map] at hV
   cases hc:caps[j]? with
   | none=>rw [hc] at hj;cases hj
   | some c=>rw [hc] at hj hV;cases hj;cases hV;exact R c
  ·cases h
 ·rename_i t ho;rw [ho]
  cases h
  refine ⟨.map (some w.heap.size),w.alloc (.map #[] 0),addLoc φ H.length ⟨0,w.heap.size,0⟩,.inl ?_,.map (by simp) ?_,hH.alloc _ 0 0 _ (by simp) (by simp) ?_ (by simp),by simpa using Ext.alloc _ 0 0,fun b hb=>List.getElem?_append_left (by omega)⟩
  ·simp [Instr.makeMap]
  ·intro L hL _;simp only [addLoc,if_true,Option.some.injEq] at hL;subst hL;rfl
  ·intro es e;cases e;exact ⟨#[],0,rfl,rfl,rfl,fun i k v hi=>by simp at hi,rfl,fun i e hi=>by simp at hi⟩
 ·rename_i t l c ho;rw [ho]
  obtain ⟨V,w',φ',h1,h2,h3,h4,h5⟩:=makeSliceA_sound hH hbase (R l) (R c) h
  exact ⟨V,w',φ',.inl (run_v h1),h2,h3,h4,h5⟩
 ·rename_i t x lo hi mx ho;rw [ho]
  exact val h fun z hz=>sliceA_sound (R x).denil (opt_rel hs lo) (opt_rel hs hi) (opt_rel hs mx) hz
 ·rename_i t x f ho;rw [ho]
  exact val h fun z hz=>fieldA_sound (R x) hz
 ·rename_i t x i ho;rw [ho]
  exact val h fun z hz=>indexAddrA_sound (R x) (R i) hz
 ·rename_i t x i ho;rw [ho]
  exact val h fun z hz=>indexA_sound (R x).denil (R i) hz
 ·rename_i t m k ok ho;rw [ho]
  exact val h fun z hz=>lookupA_sound hC hH (R m) (R k) hz
 ·rename_i t m k x ho;rw [ho]
  exact unt h fun h' hy=>by
   obtain ⟨w',h1,h2,h3,h4⟩:=updateA_sound hC hH (R m) (R k) (R x) hy
   exact ⟨w',φ,h1,h2,h3,h4⟩
 ·rename_i t m k x ho;rw [ho]
  exact unt h fun h' hy=>by
   obtain ⟨w',h1,h2,h3,h4⟩:=updateA_sound hC hH (R m) (R k) (R x) hy
   exact ⟨w',φ,h1,h2,h3,h4⟩
 ·rename_i t m k ho;rw [ho]
  obtain ⟨V,w',h1,h2,h3,h4,h5⟩:=mapEntryA_sound hC hH (R m) (R k) h
  exact ⟨V,w',φ,.inl (run_v h1),h2,h3,h4,h5⟩
 ·rename_i t m s x ho;rw [ho]
  exact unt h fun h' hy=>by
   obtain ⟨w',h1,h2,h3,h4⟩:=entryStoreA_sound (t:=t) hH (R m) (R s) (R x) hy
   exact ⟨w',φ,h1,h2,h3,h4⟩
 ·rename_i t x ho;rw [ho]
  obtain ⟨V,w',φ',h1,h2,h3,h4,h5⟩:=rangeA_sound hH hbase (R x) h
  exact ⟨V,w',φ',.inl (run_v h1),h2,h3,h4,h5⟩
 ·rename_i x ho;rw [ho]
  obtain ⟨V,w',φ',h1,h2,h3,h4,h5⟩:=nextA_sound hH (R x) h o.type
  exact ⟨V,w',φ',.inl (run_v h1),h2,h3,h4,h5⟩
 ·rename_i x ho;rw [ho]
  exact val h fun y hy=>entryA_sound hH (R x) hy
 ·rename_i x i ho;rw [ho]
  have hx:=R x
  split at h
  ·rename_i vs hx'
   rw [hx'] at hx
   generalize hX:a.eval x=X at hx
   cases hx with
   | tup hl hh =>
    rename_i cs
    exact val h fun z hz=>by
     have hi:=lt_of_get hz
     have hc:cs[i]?=some cs[i]:=Array.getElem?_eq_getElem (by omega)
     exact ⟨cs[i],by simp [Instr.extract,hX,hc],hh _ _ _ hz hc⟩
  ·cases h
 ·rename_i args ats ho;rw [ho]
  split at h
  ·rename_i t x ht hx
   have hX:(args.map a.eval)[0]?=some (a.eval x):=by simp [hx]
   cases hl:lenA P H t (evalOperand slots x).denil with
   | none=>rw [hl] at h;cases h
   | some y =>
    rw [hl] at h;cases h
    obtain ⟨V,h1,h2⟩:=lenA_sound hH (R x).denil hl o.type
    refine good_val hH ?_ h2
    simp only [resolve,Sem.run_bind,Sem.run_pure,Result.andThen_ok,invoke,builtin,len_congr ht hX,h1]
  ·cases h
 ·rename_i args ats ho;rw [ho]
  split at h
  ·rename_i t x ht hx
   have hX:(args.map a.eval)[0]?=some (a.eval x):=by simp [hx]
   cases hc:clearA P base H t (evalOperand slots x).denil with
   | none=>rw [hc] at h;cases h
   | some h' =>
    rw [hc] at h;cases h
    obtain ⟨w',φ',h1,h2,h3,h4⟩:=clearA_sound hH (R x).denil hc o.type
    refine ⟨.tuple #[],w',φ',.inl ?_,.tup rfl (fun j v V hj=>by simp at hj),h2,h3,h4⟩
    simp only [resolve,Sem.run_bind,Sem.run_pure,Result.andThen_ok,invoke,builtin,clear_congr ht hX,h1]
  ·cases h
 ·rename_i args ats ho;rw [ho]
  split at h
  ·rename_i s x hs' hx
   have hS:(args.map a.eval)[0]?=some (a.eval s):=by simp [hs']
   have hX:(args.map a.eval)[1]?=some (a.eval x):=by simp [hx]
   obtain ⟨V,w',φ',h1,h2,h3,h4,h5⟩:=appendA_sound htag hH hbase (R s).denil (R x).denil h o.type
   refine ⟨V,w',φ',.inl ?_,h2,h3,h4,h5⟩
   simp only [resolve,Sem.run_bind,Sem.run_pure,Result.andThen_ok,invoke,builtin,append_congr hS hX,h1]
  ·cases h
 ·cases h
end Go.Proofs.Ev
namespace Go.Proofs.Ev
open Go.RowKit
variable {P:Program} {C:Cfg} {N:Low} {φ φ':Phi} {H H':Heap} {w w':World} {n:Nat}
def Fw (r:Option Nat):Fence:={ Fence.wide with round:=r }
theorem callsIn_any {r r':Option Nat} {f:FuncId} {args:Array Value} {R:Ending→World→Prop} (h:CallsIn (Fw r) 0 P f args w R):CallsIn (Fw r') 0 P f args w R:=h
inductive Marks (B:Nat) (φ:Phi) (w:World):List Deferred→Prop
 | nil:Marks B φ w []
 | cons {k:Nat} {ds:List Deferred} (hB:B≤k) (hk:w.heap[k]?=some (.deferred (some []))) (hn:NotLive φ k) (hne:∀d∈ds,d.target≠Target.collected k) (h:Marks B φ w ds) :
  Marks B φ w ({ target:=.collected k,args:=#[] }::ds)
theorem Marks.mono {B:Nat} {n':Nat} (hx:Ext φ n w φ' n' w') {ds:List Deferred} (h:Marks B φ w ds):Marks B φ' w' ds:=by
 induction h with
 | nil=>exact .nil
 | cons hB hk hn hne _ ih=>exact .cons hB (hx.same _ _ hk hn) (hx.nolive _ (Array.getElem?_eq_some_iff.1 hk).1 hn) hne ih
theorem ExtC.putObj {k:Nat} {o o':Obj} (hk:w.heap[k]?=some o) (hc:∀c T fr,o≠.cells c T fr):ExtC φ n w φ n (putBlk w k o'):={
 le:=Nat.le_refl _
 size:=by simp
 loc b _ L' hL:=⟨L',hL,Nat.le_refl _,fun _=>rfl⟩
 same cb c T fr h _:=by
  refine (putBlk_other fun e=>?_).trans h
  subst e
  rw [hk] at h
  cases h
  exact hc _ _ _ rfl
 nolive _ _ h:=h }
theorem HR.laterC (h:HR N φ H w) (hx:ExtC φ H.length w φ H.length w') (hw:∀b L,φ b=some L→w'.heap[L.cb]?=w.heap[L.cb]?):HR N φ H w':={
 low:=Nat.le_trans h.low hx.size
 kept:=h.kept.monoC hx
 dead:=h.dead
 base b L hL:=⟨(h.base b L hL).1,Nat.lt_of_lt_of_le (h.base b L hL).2 hx.size⟩
 inj:=h.inj
 resn:=h.resn
 ress cb hr:=Nat.lt_of_lt_of_le (h.ress cb hr) hx.size
 rows b esz g rs hb:=by
  obtain ⟨L,cs,T,fr,h1,h2,h3,h4,h5,h6⟩:=h.rows b esz g rs hb
  exact ⟨L,cs,T,fr,h1,h2,(hw b L h1).trans h3,h4,h5,h6.monoC hx⟩
 map b es hb:=by
  obtain ⟨L,ents,clock,h1,h2,h3,h4⟩:=h.map b es hb
  exact ⟨L,ents,clock,h1,h2,(hw b L h1).trans h3,h4.monoC hx⟩
 loop b r p s ps a c hb:=by
  obtain ⟨L,r,h1,h2,h3,h4,h5,h6,h7,h8,h9⟩:=h.loop b _ _ _ _ _ _ hb
  exact ⟨L,r,h1,h2,(hw b L h1).trans h3,h4,h5,h6,h7,h8,h9.monoC hx⟩
 it b m k st hb:=by
  obtain ⟨L,M,h1,h2,h3,h4⟩:=h.it b _ _ _ hb
  exact ⟨L,M,h1,h2,(hw b L h1).trans h3,h4.monoC hx⟩ }
theorem HR.putObj (h:HR N φ H w) {k:Nat} {o o':Obj} (hk:w.heap[k]?=some o) (hc:∀c T fr,o≠.cells c T fr) (hn:NotLive φ k):HR N φ H (putBlk w k o') :=
 h.laterC (ExtC.putObj hk hc) fun b L hL=>putBlk_other fun e=>hn.1 b L hL e.symm
theorem Marks.put {B:Nat} {ds:List Deferred} (h:Marks B φ w ds) {k:Nat} {o:Obj} (hne:∀d∈ds,d.target≠Target.collected k):Marks B φ (putBlk w k o) ds:=by
 induction h with
 | nil=>exact .nil
 | cons hB hk hn hne' _ ih =>
  refine .cons hB ((putBlk_other fun e=>?_).trans hk) hn hne' (ih fun d hd=>hne d (by simp [hd]))
  subst e
  exact hne _ (List.mem_cons_self) rfl
theorem resultsA_sound (hH:HR N φ H w) {slots:List AV} {tmps:Array Value} (hs:SlotsAt φ H.length w slots tmps):∀{rs:List ResultVar} {vs:List AV},resultsA P H slots rs=some vs→
 ∃Vs:List Value,(rs.mapM fun | .tmp t=>pure (tmps.getD t Go.undef) | .cell a t=>do loadVar t (←asAddr (tmps.getD a Go.undef)):Sem (List Value)).run P w=.ok Vs w∧Two (fun v V=>RV φ H.length w v V) vs Vs
 | [],vs,h=>by
  simp only [resultsA,Option.some.injEq] at h
  subst h
  exact ⟨[],by simp,.nil⟩
 | .tmp t::rs,vs,h=>by
  simp only [resultsA] at h
  cases hr:resultsA P H slots rs with
  | none=>rw [hr] at h;cases h
  | some vs' =>
   rw [hr] at h;cases h
   obtain ⟨Vs,h1,h2⟩:=resultsA_sound hH hs hr
   have:=operand_rel (a:={ tmps:=tmps,defers:=[] }) hs (.tmp t)
   refine ⟨_,?_,.cons this h2⟩
   simp only [List.mapM_cons,Sem.run_bind,Sem.run_pure,Result.andThen_ok,h1,Act.eval]
 | .cell a t::rs,vs,h=>by
  simp only [resultsA] at h
  split at h
  ·rename_i v vs' hv hr
   cases h
   obtain ⟨Vs,h1,h2⟩:=resultsA_sound hH hs hr
   have hx:=operand_rel (a:={ tmps:=tmps,defers:=[] }) hs (.tmp a)
   obtain ⟨V,h3,h4⟩:=loadA_sound (P:=P) hH hx hv
   refine ⟨_,?_,.cons h4 h2⟩
   simp only [Act.eval] at h3
   obtain ⟨ad,hX,_,_⟩:∃ad,tmps.getD a Go.undef=.pointer (some ad)∧True∧True:=by
    unfold loadA at hv
    cases hc:cellsAt H (slots.getD a .undef) with
    | none=>rw [hc] at hv;cases hv
    | some cells=>obtain ⟨ad,h5,_⟩:=cellsAt_sound hH hx hc;exact ⟨ad,h5,trivial,trivial⟩
   rw [hX] at h3
   simp only [Instr.loadAt,Instr.sureAddr,Sem.run_bind,Sem.run_pure,Result.andThen_ok] at h3
   have hA:(asAddr (tmps.getD a Go.undef)).run P w=.ok ad w:=by rw [hX];rfl
   simp only [List.mapM_cons,Sem.run_bind,hA,Sem.run_pure,Result.andThen_ok,h3,h1]
  ·cases h
theorem results_sound (hH:HR N φ H w) {slots:List AV} {tmps:Array Value} (hs:SlotsAt φ H.length w slots tmps) {fn:Func} {vs:List AV} (h:resultsA P H slots fn.results.toList=some vs) :
 ∃V,(results fn tmps).run P w=.ok V w∧RV φ H.length w (packA vs) V:=by
 obtain ⟨Vs,h1,h2⟩:=resultsA_sound hH hs h
 refine ⟨if h:Vs.toArray.size=1 then Vs.toArray[0] else .tuple Vs.toArray,?_,?_⟩
 ·unfold results
  rw [Array.mapM_eq_mapM_toList]
  simp only [Sem.run_bind,Sem.run_map,Sem.run_pure]
  exact (congrArg (fun r:Result (List Value)=>((r.andThen fun a w'=>Result.ok a.toArray w').andThen fun a w'=>Result.ok (if h:a.size=1 then a[0] else Value.tuple a) w')) h1)
 ·cases h2 with
  | nil=>simp [packA];exact .tup rfl (fun j v V hj=>by simp at hj)
  | cons h3 h4 =>
   cases h4 with
   | nil=>simp [packA];exact h3
   | cons h5 h6 =>
    simp only [packA,List.size_toArray,List.length_cons,Nat.add_eq_right,Nat.add_eq_zero_iff]
    rw [dif_neg (by omega)]
    have h7:=(Two.cons h3 (.cons h5 h6)).get
    refine .tup (by simp [h7.1]) (fun j v V hj hV=>?_)
    obtain ⟨V',h8,h9⟩:=h7.2 j v hj
    rw [List.getElem?_toArray,h8] at hV
    cases hV;exact h9
end Go.Proofs.Ev
