/- Part 2 of the proof that quiltlaw38.BlameTouching returns true: no statement of its own. -/
import Derived.Test.YtbpaeodbnleoaaaGreatDoorT1
set_option linter.all false
namespace Go.Proofs.Ev
open Go.RowKit
variable {P:Program} {N:gA} {φ φ':fE} {H H':ag} {w w':World}
def ta (φ:fE) (n:Nat) (w:World):Option AV→Option Value→Prop
 | none,none=>True
 | some v,some V=>RV φ n w v V
 | _,_=>False
theorem j5 {n':Nat} {v:AV} {V:Value} {len i:Nat} (hv:RV φ n' w v V) (h:ii v (len+1)=some i) (cap:Nat) (hc:len≤cap) (code:BoundsCode) (w0:World) :
 (Instr.sliceBound V cap code).run P w0=.ok i w0∧i≤len:=by
 obtain ⟨k,n,rfl,h0,h1,rfl⟩:=kr hv h
 refine ⟨?_,by omega⟩
 have:0≤n∧n≤(cap:Int):=⟨h0,by omega⟩
 simp [Instr.sliceBound,asIntOf,this]
theorem iE {n':Nat} {lo hi:Option AV} {LO HI:Option Value} {len l h:Nat} (hlo:ta φ n' w lo LO) (hhi:ta φ n' w hi HI) (hb:bJ len len lo hi=some (l,h)) (isSlice:Bool) (cap:Nat) (hc:len≤cap) :
 (Instr.sliceBounds isSlice len cap LO HI none).run P w=.ok (l,h,cap) w∧l≤h∧h≤len:=by
 unfold bJ at hb
 cases hi with
 | none =>
  cases HI with
  | some _=>exact hhi.elim
  | none =>
   simp only at hb
   cases lo with
   | none =>
    cases LO with
    | some _=>exact hlo.elim
    | none =>
     cases hb
     refine ⟨?_,Nat.zero_le _,Nat.le_refl _⟩
     simp [Instr.sliceBounds]
   | some v =>
    cases LO with
    | none=>exact hlo.elim
    | some V =>
     simp only at hb
     cases hi':ii v (len+1) with
     | none=>rw [hi'] at hb;cases hb
     | some i =>
      rw [hi'] at hb;cases hb
      have h1:=fun code=>j5 (P:=P) (code:=code) hlo hi' len (Nat.le_refl _) w
      refine ⟨?_,(h1 .index).2,Nat.le_refl _⟩
      simp [Instr.sliceBounds,Result.andThen,(h1 _).1]
 | some u =>
  cases HI with
  | none=>exact hhi.elim
  | some U =>
   simp only at hb
   cases hu:ii u (len+1) with
   | none=>rw [hu] at hb;cases hb
   | some hh =>
    rw [hu] at hb
    have h0:=fun code=>j5 (P:=P) (code:=code) hhi hu cap hc w
    cases lo with
    | none =>
     cases LO with
     | some _=>exact hlo.elim
     | none =>
      cases hb
      refine ⟨?_,Nat.zero_le _,(h0 .index).2⟩
      cases isSlice<;>simp [Instr.sliceBounds,Result.andThen,(h0 _).1]
    | some v =>
     cases LO with
     | none=>exact hlo.elim
     | some V =>
      simp only at hb
      cases hi':ii v (hh+1) with
      | none=>rw [hi'] at hb;cases hb
      | some i =>
       rw [hi'] at hb;cases hb
       have h1:=fun code=>j5 (P:=P) (code:=code) hlo hi' h (Nat.le_refl _) w
       refine ⟨?_,(h1 .index).2,(h0 .index).2⟩
       cases isSlice<;>simp [Instr.sliceBounds,Result.andThen,(h0 _).1,(h1 _).1]
theorem sr {n':Nat} {lo:Option AV} {hi mx:AV} {LO:Option Value} {HI MX:Value} {len m l h:Nat} (hlo:ta φ n' w lo LO) (hhi:RV φ n' w hi HI) (hmx:RV φ n' w mx MX) (hm:ii mx (len+1)=some m)
 (hb:bJ m m lo (some hi)=some (l,h)) (cap:Nat) (hc:len≤cap) :
 (Instr.sliceBounds true len cap LO (some HI) (some MX)).run P w=.ok (l,h,m) w∧l≤h∧h≤m∧m≤len:=by
 have hm1:=fun code=>j5 (P:=P) (code:=code) hmx hm cap hc w
 unfold bJ at hb
 simp only at hb
 cases hu:ii hi (m+1) with
 | none=>rw [hu] at hb;cases hb
 | some hh =>
  rw [hu] at hb
  have h0:=fun code=>j5 (P:=P) (code:=code) hhi hu m (Nat.le_refl _) w
  cases lo with
  | none =>
   cases LO with
   | some _=>exact hlo.elim
   | none =>
    cases hb
    refine ⟨?_,Nat.zero_le _,(h0 .index).2,(hm1 .index).2⟩
    simp [Instr.sliceBounds,Result.andThen,(h0 _).1,(hm1 _).1]
  | some v =>
   cases LO with
   | none=>exact hlo.elim
   | some V =>
    simp only at hb
    cases hi':ii v (hh+1) with
    | none=>rw [hi'] at hb;cases hb
    | some i =>
     rw [hi'] at hb;cases hb
     have h1:=fun code=>j5 (P:=P) (code:=code) hlo hi' h (Nat.le_refl _) w
     refine ⟨?_,(h1 .index).2,(h0 .index).2,(hm1 .index).2⟩
     simp [Instr.sliceBounds,Result.andThen,(h0 _).1,(h1 _).1,(hm1 _).1]
theorem oy (l:List UInt8) (a b:Nat):(⟨⟨l⟩⟩:ByteArray).extract a b=⟨⟨(l.take b).drop a⟩⟩:=by
 apply ByteArray.ext
 rw [ByteArray.data_extract]
 apply Array.ext'
 simp [List.drop_take]
theorem RV.lst_part {n':Nat} {rows:List (List AV)} {e e':Bool} {base:Option Addr} {len cap sz l h m:Nat} (hx:RV φ n' w (.lst rows e) (.slice base len cap)) (hw:wide (some sz) rows=true) (hl:l≤h) (hh:h≤rows.length) (hm:h≤m)
 (he':e'=true→m-l=h-l):RV φ n' w (.lst ((rows.take h).drop l) e') (.slice (if m=l then base else base.map (·.add (l*sz))) (h-l) (m-l)):=by
 cases hx with
 | lst Vs esz hlen hcap he hb hr =>
  refine .lst (fun i j=>Vs (l+i) j) esz (by simp;omega) (by omega) he' (fun hne=>?_) (fun i row hi j v hj=>?_)
  ·have hlt:l<h:=by
    rcases Nat.lt_or_ge l h with h1 | h1
    ·exact h1
    ·exfalso;apply hne
     rw [List.drop_eq_nil_iff];simp;omega
   have hrne:rows≠[]:=by intro e0;subst e0;simp at hh;omega
   obtain ⟨cb,off,rfl,hc⟩:=hb hrne
   have hsz:sz=esz:=by
    cases rows with
    | nil=>exact absurd rfl hrne
    | cons r rest =>
     have:=(hc 0 r rfl).1
     simp [wide] at hw
     omega
   subst hsz
   refine ⟨cb,off+l*sz,?_,fun i row hi=>?_⟩
   ·rw [if_neg (by omega)]
    simp only [Option.map_some]
    rw [dQ rfl]
   ·rw [List.getElem?_drop,List.getElem?_take] at hi
    split at hi
    ·obtain ⟨h1,h2⟩:=hc _ row hi
     refine ⟨h1,fun j v hj=>?_⟩
     have:=h2 j v hj
     rwa [Nat.add_mul,←Nat.add_assoc] at this
    ·cases hi
  ·rw [List.getElem?_drop,List.getElem?_take] at hi
   split at hi
   ·exact hr _ row hi j v hj
   ·cases hi
theorem RV.empty {n':Nat} (base:Option Addr) (cap:Nat) (e:Bool) (h:e=true→cap=0):RV φ n' w (.lst [] e) (.slice base 0 cap) :=
 .lst (fun _ _=>Go.undef) 0 rfl (Nat.zero_le _) h (fun h=>absurd rfl h) (fun i row hi=>by simp at hi)
theorem yc {n':Nat} {t:TypeId} {x y:AV} {X:Value} {lo hi mx:Option AV} {LO HI MX:Option Value} (hx:RV φ n' w x X) (hlo:ta φ n' w lo LO) (hhi:ta φ n' w hi HI) (hmx:ta φ n' w mx MX)
 (h:cX P t x lo hi mx=some y):∃Y,(Instr.sliceAt t X LO HI MX).run P w=.ok Y w∧RV φ n' w y Y:=by
 unfold cX at h
 split at h
 ·rename_i s hu
  cases MX with
  | some _=>exact hmx.elim
  | none =>
   cases hx
   cases hb:bJ s.length s.length lo hi with
   | none=>rw [hb] at h;cases h
   | some lh =>
    obtain ⟨l,h'⟩:=lh
    rw [hb] at h;cases h
    obtain ⟨h1,h2,h3⟩:=iE (P:=P) hlo hhi hb false s.length (Nat.le_refl _)
    refine ⟨.string ⟨⟨(s.take h').drop l⟩⟩,?_,.str _⟩
    have hsz:(⟨⟨s⟩⟩:ByteArray).size=s.length:=rfl
    simp [Instr.sliceAt,Instr.slice,aL hu,hsz,h1,Result.andThen,oy]
 ·rename_i elem rows e hu
  cases MX with
  | some _=>exact hmx.elim
  | none =>
   split at h
   ·rename_i hw
    cases hb:bJ rows.length rows.length lo hi with
    | none=>rw [hb] at h;cases h
    | some lh =>
     obtain ⟨l,h'⟩:=lh
     rw [hb] at h;cases h
     have hx':=hx
     cases hx with
     | lst Vs esz hlen hcap he hb' hr =>
      rename_i cap
      subst hlen
      obtain ⟨h1,h2,h3⟩:=iE (P:=P) hlo hhi hb true cap hcap
      cases hsz:bF P elem with
      | none=>rw [hsz] at hw;cases rows<;>simp [wide] at hw
      | some sz =>
       rw [hsz] at hw
       refine ⟨_,?_,hx'.lst_part hw h2 h3 (Nat.le_trans h3 hcap) (fun he'=>?_)⟩
       ·simp [Instr.sliceAt,Instr.slice,aL hu,h1,Result.andThen,bI hsz]
       ·simp only [Bool.and_eq_true,beq_iff_eq] at he'
        have:=he he'.1
        omega
   ·cases h
 ·rename_i elem b g esz a len hu
  cases MX with
  | some _=>exact hmx.elim
  | none =>
   split at h
   ·rename_i hsz
    cases hb:bJ len len lo hi with
    | none=>rw [hb] at h;cases h
    | some lh =>
     obtain ⟨l,h'⟩:=lh
     rw [hb] at h
     simp only [Option.map_some,Option.some.injEq] at h
     cases hx with
     | sl hb' hcap hh =>
      rename_i cap ad
      obtain ⟨h1,h2,h3⟩:=iE (P:=P) hlo hhi hb true cap hcap
      refine ⟨.slice (if cap=l then some ad else (some ad).map (·.add (l*esz))) (h'-l) (cap-l),?_,?_⟩
      ·simp [Instr.sliceAt,Instr.slice,aL hu,h1,Result.andThen,bI hsz]
      ·split at h
       ·rename_i he;subst he;subst h
        rw [Nat.sub_self];exact RV.empty _ _ _ (by simp)
       ·subst h
        rw [if_neg (by omega)]
        refine .sl hb' (by omega) fun L hL=>⟨(hh L hL).1,fun e=>?_⟩
        obtain ⟨e1,e2⟩:=(hh L hL).2 e
        refine ⟨by show ad.add (l*esz)=_;rw [e1,dQ rfl,Nat.add_mul],?_⟩
        have:a+l+(cap-l)=a+cap:=by omega
        rw [this];exact e2
   ·cases h
 ·rename_i elem b g esz i off len hu
  cases MX with
  | some _=>exact hmx.elim
  | none =>
   split at h
   ·rename_i hsz
    cases hb:bJ len len lo hi with
    | none=>rw [hb] at h;cases h
    | some lh =>
     obtain ⟨l,h'⟩:=lh
     rw [hb] at h
     simp only [Option.map_some,Option.some.injEq] at h
     cases hx with
     | asl hb' hcap hh =>
      rename_i cap ad
      obtain ⟨h1,h2,h3⟩:=iE (P:=P) hlo hhi hb true cap hcap
      refine ⟨.slice (if cap=l then some ad else (some ad).map (·.add (l*1))) (h'-l) (cap-l),?_,?_⟩
      ·simp [Instr.sliceAt,Instr.slice,aL hu,h1,Result.andThen,bI hsz]
      ·split at h
       ·rename_i he;subst he;subst h
        rw [Nat.sub_self];exact RV.empty _ _ _ (by simp)
       ·subst h
        rw [if_neg (by omega)]
        refine .asl hb' (by omega) fun L hL=>⟨(hh L hL).1,fun e=>?_⟩
        show ad.add (l*1)=_
        rw [(hh L hL).2 e,dQ rfl,Nat.mul_one,Nat.add_assoc]
   ·cases h
 ·rename_i elem rows e mv hu
  cases MX with
  | none=>exact hmx.elim
  | some MV =>
   split at h
   ·rename_i m hv hm
    cases HI with
    | none=>exact hhi.elim
    | some HV =>
     split at h
     ·rename_i hw
      cases hb:bJ m m lo (some hv) with
      | none=>rw [hb] at h;cases h
      | some lh =>
       obtain ⟨l,h'⟩:=lh
       rw [hb] at h;cases h
       have hx':=hx
       cases hx with
       | lst Vs esz hlen hcap he hb' hr =>
        rename_i cap
        subst hlen
        obtain ⟨h1,h2,h3,h4⟩:=sr (P:=P) hlo hhi hmx hm hb cap hcap
        cases hsz:bF P elem with
        | none=>rw [hsz] at hw;cases rows<;>simp [wide] at hw
        | some sz =>
         rw [hsz] at hw
         refine ⟨_,?_,hx'.lst_part hw h2 (by omega) h3 (fun he'=>?_)⟩
         ·simp [Instr.sliceAt,Instr.slice,aL hu,h1,Result.andThen,bI hsz]
         ·simp only [beq_iff_eq] at he';omega
     ·cases h
   ·cases h
 ·rename_i elem b g esz a len mv hu
  cases MX with
  | none=>exact hmx.elim
  | some MV =>
   split at h
   ·rename_i m hv sz hm hsz
    cases HI with
    | none=>exact hhi.elim
    | some HV =>
     cases hb:bJ m m lo (some hv) with
     | none=>rw [hb] at h;cases h
     | some lh =>
      obtain ⟨l,h'⟩:=lh
      rw [hb] at h
      simp only [Option.bind_some] at h
      split at h
      ·rename_i he;subst he;cases h
       cases hx with
       | sl hb' hcap hh =>
        rename_i cap ad
        obtain ⟨h1,h2,h3,h4⟩:=sr (P:=P) hlo hhi hmx hm hb cap hcap
        refine ⟨.slice (if m=h' then some ad else (some ad).map (·.add (h'*sz))) (h'-h') (m-h'),?_,?_⟩
        ·simp [Instr.sliceAt,Instr.slice,aL hu,h1,Result.andThen,bI hsz]
        ·rw [Nat.sub_self];exact RV.empty _ _ _ (by simp;omega)
      ·cases h
   ·cases h
 ·rename_i n elem b g esz i off hu
  cases MX with
  | some _=>exact hmx.elim
  | none =>
   split at h
   ·rename_i hsz
    cases hb:bJ n n lo hi with
    | none=>rw [hb] at h;cases h
    | some lh =>
     obtain ⟨l,h'⟩:=lh
     rw [hb] at h
     simp only [Option.map_some,Option.some.injEq] at h
     cases hx with
     | ptr hb' hh =>
      rename_i ad
      obtain ⟨h1,h2,h3⟩:=iE (P:=P) hlo hhi hb false n (Nat.le_refl _)
      refine ⟨.slice (some (if n=l then ad else ad.add (l*1))) (h'-l) (n-l),?_,?_⟩
      ·simp [Instr.sliceAt,Instr.sureAddr,aL hu,h1,Result.andThen,bI hsz]
      ·split at h
       ·rename_i he;subst he;subst h
        rw [Nat.sub_self];exact RV.empty _ _ _ (by simp)
       ·subst h
        rw [if_neg (by omega)]
        refine .asl hb' (by omega) fun L hL=>⟨(hh L hL).1,fun e=>?_⟩
        rw [(hh L hL).2 e,dQ rfl,Nat.mul_one,Nat.add_assoc]
   ·cases h
 ·rename_i n elem cells hu
  cases MX with
  | some _=>exact hmx.elim
  | none =>
   split at h
   ·rename_i hsz
    obtain ⟨hsz,hn⟩:=hsz
    cases hb:bJ n n lo hi with
    | none=>rw [hb] at h;cases h
    | some lh =>
     obtain ⟨l,h'⟩:=lh
     rw [hb] at h
     simp only [Option.map_some,Option.some.injEq] at h
     subst h
     cases hx with
     | eptr Vs hs hc hr =>
      rename_i ad
      obtain ⟨h1,h2,h3⟩:=iE (P:=P) hlo hhi hb false n (Nat.le_refl _)
      refine ⟨.slice (some (if n=l then ad else ad.add (l*1))) (h'-l) (n-l),?_,?_⟩
      ·simp [Instr.sliceAt,Instr.sureAddr,aL hu,h1,Result.andThen,bI hsz]
      ·have key:∀(i:Nat) (row:List AV),(((cells.take h').drop l).map fun c=>[c])[i]?=some row→∃c,row=[c]∧cells[l+i]?=some c:=by
        intro i row hi
        rw [List.getElem?_map,List.getElem?_drop,List.getElem?_take] at hi
        split at hi
        ·cases hc':cells[l+i]? with
         | none=>rw [hc'] at hi;cases hi
         | some c=>rw [hc'] at hi;cases hi;exact ⟨c,rfl,rfl⟩
        ·cases hi
       refine .lst (fun i _=>Vs (l+i)) 1 (by simp;omega) (by omega) (by simp) (fun hne=>?_) (fun i row hi j v hj=>?_)
       ·have hlt:l<h':=by
         rcases Nat.lt_or_ge l h' with h1 | h1
         ·exact h1
         ·exfalso;apply hne
          rw [List.map_eq_nil_iff,List.drop_eq_nil_iff];simp;omega
        refine ⟨ad.block,ad.off+l,?_,fun i row hi=>?_⟩
        ·rw [if_neg (by omega),dQ hs,Nat.mul_one]
        ·obtain ⟨c,rfl,hci⟩:=key i row hi
         refine ⟨rfl,fun j v hj=>?_⟩
         cases j with
         | succ j=>simp at hj
         | zero =>
          simp at hj;subst hj
          have:=hc _ c hci
          refine ⟨this.1,this.2.1,?_⟩
          rw [Nat.mul_one,Nat.add_zero,Nat.add_assoc]
          exact this.2.2
       ·obtain ⟨c,rfl,hci⟩:=key i row hi
        cases j with
        | succ j=>simp at hj
        | zero=>simp at hj;subst hj;exact hr _ c hci
   ·cases h
 ·cases h
end Go.Proofs.Ev
namespace Go.Proofs.Ev
open Go.RowKit
variable {P:Program} {N:gA} {φ φ':fE} {H H':ag} {w w':World}
inductive kN {α β:Type} (R:α→β→Prop):List α→List β→Prop where
 | nil:kN R [] []
 | cons {a:α} {b:β} {l:List α} {m:List β} (h:R a b) (t:kN R l m):kN R (a::l) (b::m)
theorem kN.map {α β γ:Type} {R:α→β→Prop} (f:γ→α) (g:γ→β) (h:∀x,R (f x) (g x)):∀l:List γ,kN R (l.map f) (l.map g)
 | []=>.nil
 | x::l=>.cons (h x) (kN.map f g h l)
theorem ut {n:Nat} (v:Value):RV φ n w (nx v) v:=by
 unfold nx
 split
 ·exact .bool _
 ·exact .int _ _
 ·rename_i s
  obtain ⟨⟨l⟩⟩:=s
  exact .str l
 ·exact .nilp
 ·exact .nils
 ·exact .nilm
 ·exact .nilf
 ·exact .undef _
theorem zR {v:Value} (h:nx v≠.undef):(nx v).leaf=true:=by
 revert h
 unfold nx
 split<;>simp [AV.leaf]
theorem sj {n:Nat} (v:Value):RV φ n w (ofValue v) v:=by
 unfold ofValue
 split
 ·rename_i cs
  dsimp only
  split
  ·rename_i hall
   rw [List.all_eq_true] at hall
   refine .agg (by simp) (fun j v hj=>hall v (List.mem_of_getElem? hj)) (fun j v V hj hV=>?_)
   rw [List.getElem?_map,Array.getElem?_toList,hV] at hj
   cases hj
   exact ut _
  ·exact .undef _
 ·exact ut v
theorem xD {v:Value} (h:ofValue v≠.undef):(ofValue v).cells.all AV.leaf=true:=by
 revert h
 unfold ofValue
 split
 ·dsimp only
  split
  ·rename_i hall;intro _;exact hall
  ·intro h;exact absurd rfl h
 ·intro h
  have hl:=zR h
  cases hv:nx v<;>rw [hv] at hl<;>simp [AV.leaf] at hl<;>simp [AV.cells,AV.leaf]
theorem eW {n:Nat} {slots:List AV} {a:Act} (hs:bM φ n w slots a.tmps) (x:Operand):RV φ n w (aU slots x) (a.eval x):=by
 cases x with
 | tmp t =>
  simp only [aU,Act.eval]
  cases ht:slots[t]? with
  | none=>rw [List.getD,ht];exact .undef _
  | some v =>
   obtain ⟨V,h1,h2⟩:=hs.2 t v ht
   rw [List.getD,ht,Array.getD_eq_getD_getElem?,h1]
   exact h2
 | const v=>exact sj v
 | global g=>exact .undef _
 | func f=>exact .fn (by simp) (fun j v V hj=>by simp at hj)
theorem db {n:Nat} {t:TypeId} {z:AV} (h:aQ P t=some z):∃i Z,P.info? t=some i∧i.zero=some Z∧(∀w0:World,(zeroValue t).run P w0=.ok Z w0)∧RV φ n w z Z∧z.cells.all AV.leaf=true:=by
 unfold aQ at h
 cases hi:P.info? t with
 | none=>rw [hi] at h;cases h
 | some i =>
  rw [hi] at h
  simp only [Option.bind_some] at h
  cases hz:i.zero with
  | none=>rw [hz] at h;cases h
  | some Z =>
   rw [hz] at h
   have hne:ofValue Z≠.undef:=by intro e;simp only [e] at h;cases h
   have hz':ofValue Z=z:=by
    cases hv:ofValue Z<;>simp only [hv] at h<;>first | exact absurd hv hne | exact Option.some.inj h
   subst hz'
   exact ⟨i,Z,rfl,hz,fun w0=>by simp [zeroValue,typeInfo,hi,hz],sj Z,xD hne⟩
theorem rO {base:Nat} (g:Nat) (hH:HR N φ H w) (hbase:base≤H.length) {v:AV} {V:Value} (hv:RV φ H.length w v V) (hl:v.cells.all AV.leaf=true) (T:TypeId) (hg:(g % 4=1→N.tag 1 T)∧(g % 4=2→N.tag 2 T)) {r:Result Next}
 (hr:r=.ok (.value (.pointer (some ⟨w.heap.size,0,none⟩))) (w.alloc (.cells V.cells T (0,0)))) :
 Good N base φ H w (iK H g v).1 (iK H g v).2 r:=by
 obtain ⟨h1,h2,h3⟩:=hv.cells hl
 refine ⟨_,_,bK φ H.length ⟨g,w.heap.size,V.cells.size⟩,.inl hr,?_,hH.alloc _ g V.cells.size _ (by simp) ?_ (by simp) (by simp),by simpa [iK] using cj.alloc _ g _,?_⟩
 ·refine .ptr (by simp [iK]) fun L hL=>?_
  simp only [bK,if_true,Option.some.injEq] at hL
  subst hL
  exact ⟨Nat.le_refl _,fun _=>by simp⟩
 ·intro esz g' rs e
  cases e
  refine ⟨_,T,_,rfl,rfl,rfl,⟨.zero _,hg,fun _=>.zero _⟩,by simp [h1],fun i row hi=>?_⟩
  cases i with
  | succ i=>simp at hi
  | zero =>
   simp only [List.getElem?_cons_zero,Option.some.injEq] at hi
   subst hi
   refine ⟨rfl,fun j x hj=>?_⟩
   obtain ⟨a,X,b,c⟩:=h2 j x hj
   exact ⟨a,X,by simpa using b,c⟩
 ·intro k hk
  simp only [iK]
  rw [List.getElem?_append_left (by omega)]
theorem AZ {base:Nat} (hH:HR N φ H w) (hbase:base≤H.length) {v:AV} {V:Value} (hv:RV φ H.length w v V) (hl:v.cells.all AV.leaf=true) (T:TypeId) {r:Result Next}
 (hr:r=.ok (.value (.pointer (some ⟨w.heap.size,0,none⟩))) (w.alloc (.cells V.cells T (0,0)))) :
 Good N base φ H w (fq H v).1 (fq H v).2 r:=rO 0 hH hbase hv hl T (by simp) hr
theorem It {cur:Array Value} {k:Nat} {v:Value} {rest:List Value} (h:k+(rest.length+1)≤cur.size):lR (cur.setIfInBounds k v) (k+1) rest=lR cur k (v::rest):=by
 have e:=list_seg_step cur.toList k v rest (by simpa using h)
 unfold lR
 rw [Array.toList_setIfInBounds]
 congr 1
theorem ud (off:Nat):∀(l:List Value) (k:Nat) (cells:Array Value),off+k+l.length≤cells.size→
 (l.zipIdx k).foldl (fun cs (c,j)=>cs.setIfInBounds (off+j) c) cells=lR cells (off+k) l
 | [],k,cells,_=>by simp [lR]
 | v::l,k,cells,h=>by
  simp only [List.zipIdx_cons,List.foldl_cons]
  rw [ud off l (k+1) _ (by simp at h ⊢;omega),←Nat.add_assoc,It (by simp at h ⊢;omega)]
theorem I8 {n:Nat} {cells:List AV} {cs:Array Value} (h:RV φ n w (.agg cells) (.agg cs)) {v:AV} {V:Value} (hv:RV φ n w v V) (hl:v.cells.all AV.leaf=true) {off:Nat} (hfit:off+v.cells.length≤cells.length) :
 RV φ n w (.agg (cells.take off++v.cells++cells.drop (off+v.cells.length))) (.agg (lR cs off V.cells.toList)):=by
 obtain ⟨h1,h2,_⟩:=hv.cells hl
 cases h with
 | agg hlen hf hh =>
  have hfc:off+V.cells.toList.length≤cs.size:=by simp;omega
  refine .agg (by rw [fo hfc,oN _ _ _ hfit];exact hlen) (fun j x hj=>?_) (fun j x X hj hX=>?_)
  ·rw [rH _ _ _ hfit] at hj
   split at hj
   ·exact (h2 _ x hj).1
   ·exact hf _ x hj
  ·rw [rH _ _ _ hfit] at hj
   rw [kI hfc] at hX
   have hlen2:V.cells.toList.length=v.cells.length:=by simpa using h1
   split at hj
   ·rename_i hin
    rw [if_pos (by omega)] at hX
    obtain ⟨_,X',h4,h5⟩:=h2 _ x hj
    rw [Array.getElem?_toList,h4] at hX
    cases hX;exact h5
   ·rename_i hin
    rw [if_neg (by omega)] at hX
    exact hh _ x X hj hX
theorem tY {n:Nat} {place:Nat→Option (Nat×Nat)}:∀{parts:List (Nat×AV)} {Parts:List (Nat×Value)} {cells cells':List AV} {cs:Array Value},RV φ n w (.agg cells) (.agg cs)→
 kN (fun p Q=>p.1=Q.1∧RV φ n w p.2 Q.2) parts Parts→aE place cells parts=some cells'→∃cs',Instr.fill place cs Parts=some cs'∧RV φ n w (.agg cells') (.agg cs'):=by
 intro parts
 induction parts with
 | nil =>
  intro Parts cells cells' cs h hp hf
  cases hp
  simp only [aE,Option.some.injEq] at hf
  subst hf
  exact ⟨cs,rfl,h⟩
 | cons p parts ih =>
  intro Parts cells cells' cs h hp hf
  cases hp with
  | cons h1 h2 =>
   rename_i Q Qs
   obtain ⟨i,v⟩:=p
   obtain ⟨i',V⟩:=Q
   obtain ⟨rfl,hv⟩:=h1
   simp only [aE] at hf
   split at hf
   ·cases hf
   ·rename_i off size hpl
    split at hf
    ·rename_i hc
     obtain ⟨hsz,hfit,hl⟩:=hc
     subst hsz
     have hs:=I8 h hv hl hfit
     obtain ⟨cs',h3,h4⟩:=ih hs h2 hf
     refine ⟨cs',?_,h4⟩
     obtain ⟨h5,_,_⟩:=hv.cells hl
     simp only at h5
     have hcl:cs.size=cells.length:=by cases h;assumption
     simp only [Instr.fill,hpl]
     have hno:¬((decide (V.cells.size≠v.cells.length)||decide (off+V.cells.size > cs.size))=true):=by simp [h5];omega
     rw [if_neg hno]
     have hfold:=ud off V.cells.toList 0 cs (by simp;omega)
     rw [Nat.add_zero] at hfold
     rw [←Array.foldl_toList,Array.toList_zipIdx]
     rw [hfold]
     exact h3
    ·cases hf
theorem vD {n:Nat} {z:AV} {Z:Value} (h:RV φ n w z Z) (hl:z.cells.all AV.leaf=true):RV φ n w (.agg z.cells) (.agg Z.cells):=by
 obtain ⟨h1,h2,_⟩:=h.cells hl
 refine .agg h1 (fun j v hj=>(h2 j v hj).1) (fun j v V hj hV=>?_)
 obtain ⟨_,X,h3,h4⟩:=h2 j v hj
 rw [h3] at hV;cases hV;exact h4
theorem wX {n:Nat} {t:TypeId} {parts:List (Nat×AV)} {Parts:Array (Nat×Value)} (hp:kN (fun p Q=>p.1=Q.1∧RV φ n w p.2 Q.2) parts Parts.toList) {v:AV} (h:ed P t parts=some v) :
 ∃V,(Instr.build t Parts).run P w=.ok V w∧RV φ n w v V:=by
 unfold ed at h
 split at h
 ·rename_i z fields hz hu
  obtain ⟨i,Z,hi,hiz,_,hrv,hl⟩:=db (φ:=φ) (n:=n) (w:=w) hz
  split at h
  ·rename_i places hpl
   cases hf:aE (places[·]?) z.cells parts with
   | none=>rw [hf] at h;cases h
   | some cells' =>
    rw [hf] at h;cases h
    obtain ⟨cs',h1,h2⟩:=tY (vD hrv hl) hp hf
    refine ⟨.agg cs',run_build w t Parts cs' ?_,h2⟩
    unfold Program.built
    simp only [hi,hu,hiz]
    have hpl':fields.toList.mapM (fun f=>(P.info? f.type).map fun i=>(f.offset,i.size))=some places:=by
     rw [←hpl];congr 1;funext f;unfold bF;cases P.info? f.type<;>rfl
    rw [hpl']
    simp only [List.getElem?_toArray]
    exact h1
  ·cases h
 ·rename_i z len elem hz hu
  obtain ⟨i,Z,hi,hiz,_,hrv,hl⟩:=db (φ:=φ) (n:=n) (w:=w) hz
  split at h
  ·rename_i s hs
   obtain ⟨ie,hie,rfl⟩:=rJ hs
   cases hf:aE (fun i=>some (i*ie.size,ie.size)) z.cells parts with
   | none=>rw [hf] at h;cases h
   | some cells' =>
    rw [hf] at h;cases h
    obtain ⟨cs',h1,h2⟩:=tY (vD hrv hl) hp hf
    refine ⟨.agg cs',run_build w t Parts cs' ?_,h2⟩
    unfold Program.built
    simp only [hi,hu,hiz,hie]
    exact h1
  ·cases h
 ·cases h
end Go.Proofs.Ev
namespace Go.Proofs.Ev
open Go.RowKit
variable {P:Program} {N:gA} {φ φ':fE} {H H':ag} {w w':World}
theorem HR.later (h:HR N φ H w) (hx:cj φ H.length w φ H.length w') (hw:∀b L,φ b=some L→w'.heap[L.cb]?=w.heap[L.cb]?):HR N φ H w':={
 low:=Nat.le_trans h.low hx.size
 kept:=h.kept.monoC hx.toC
 dead:=h.dead
 base b L hL:=⟨(h.base b L hL).1,Nat.lt_of_lt_of_le (h.base b L hL).2 hx.size⟩
 inj:=h.inj
 resn:=h.resn
 ress cb hr:=Nat.lt_of_lt_of_le (h.ress cb hr) hx.size
 rows b esz g rs hb:=by
  obtain ⟨L,cs,T,fr,h1,h2,h3,h4,h5,h6⟩:=h.rows b esz g rs hb
  exact ⟨L,cs,T,fr,h1,h2,(hw b L h1).trans h3,h4,h5,h6.mono hx⟩
 map b es hb:=by
  obtain ⟨L,ents,clock,h1,h2,h3,h4⟩:=h.map b es hb
  exact ⟨L,ents,clock,h1,h2,(hw b L h1).trans h3,h4.mono hx⟩
 loop b r p s ps a c hb:=by
  obtain ⟨L,r,h1,h2,h3,h4,h5,h6,h7,h8,h9⟩:=h.loop b _ _ _ _ _ _ hb
  exact ⟨L,r,h1,h2,(hw b L h1).trans h3,h4,h5,h6,h7,h8,h9.mono hx⟩
 it b m k st hb:=by
  obtain ⟨L,M,h1,h2,h3,h4⟩:=h.it b _ _ _ hb
  exact ⟨L,M,h1,h2,(hw b L h1).trans h3,h4.mono hx⟩ }
theorem cj.alloc_out {n:Nat} (o:Obj):cj φ n w φ n (w.alloc o):={
 env:=.refl
 le:=Nat.le_refl _
 size:=by simp
 loc b _ L' hL:=⟨L',hL,Nat.le_refl _,fun _=>rfl⟩
 same cb o' hc _:=(aX (Array.getElem?_eq_some_iff.1 hc).1).trans hc
 nolive cb _ hn:=hn
 loops cb r hc:=⟨r,(aX (Array.getElem?_eq_some_iff.1 hc).1).trans hc⟩
 res:=rfl
 keep cb o' _ hc:=(aX (Array.getElem?_eq_some_iff.1 hc).1).trans hc }
theorem HR.alloc_out (h:HR N φ H w) (o:Obj):HR N φ H (w.alloc o) :=
 h.later (cj.alloc_out o) fun b L hL=>aX (h.base b L hL).2
theorem cj.drew {n:Nat}:cj φ n w φ n w.drew:=⟨Nat.le_refl _,Nat.le_refl _,fun _ _ L' h=>⟨L',h,Nat.le_refl _,fun _=>rfl⟩,fun _ _ h _=>h,fun _ _ h=>h,fun _ r h=>⟨r,h⟩,rfl,fun _ _ _ h=>h,.refl⟩
theorem HR.drew (h:HR N φ H w):HR N φ H w.drew:=h.later .drew fun _ _ _=>rfl
theorem HR.regen (h:HR N φ H w) {b:Nat} {L:DO} (hL:φ b=some L) {g' esz:Nat} (hg:L.g<g') {cs:Array Value} {T:TypeId} {fr:Nat×Nat} {rs:List (List AV)} (hnl:∀r:Loop,w.heap[L.cb]?≠some (Obj.loop r)) (hsz:cs.size=L.size) (hf:tb N esz g' T fr cs.size) (hr:cH φ H.length w esz rs cs) :
 HR N (bK φ b ⟨g',L.cb,L.size⟩) (H.set b (.rows esz g' rs)) (bE w L.cb (.cells cs T fr))∧cj φ H.length w (bK φ b ⟨g',L.cb,L.size⟩) H.length (bE w L.cb (.cells cs T fr)):=by
 have hx:cj φ H.length w (bK φ b ⟨g',L.cb,L.size⟩) H.length (bE w L.cb (.cells cs T fr)):=by
  refine ⟨Nat.le_refl _,by simp,fun k _ L' hL'=>?_,fun cb o hc hn=>(bq (hn.1 b L hL)).trans hc,fun cb _ hn=>⟨fun k L' hL'=>?_,hn.2⟩,fun cb r hc=>?_,rfl,fun cb o hr hc=>(bq fun e=>h.resn b L hL (by rw [e];exact hr)).trans hc,.refl⟩
  ·simp only [bK] at hL'
   split at hL'
   ·rename_i e;subst e;cases hL';exact ⟨L,hL,by simp;omega,fun e=>by simp at e;omega⟩
   ·exact ⟨L',hL',Nat.le_refl _,fun _=>rfl⟩
  ·simp only [bK] at hL'
   split at hL'
   ·cases hL';exact hn.1 b L hL
   ·exact hn.1 k L' hL'
  ·by_cases e:L.cb=cb
   ·subst e;exact absurd hc (hnl r)
   ·exact ⟨r,(bq e).trans hc⟩
 have hlt:b<H.length:=by
  rcases Nat.lt_or_ge b H.length with h1 | h1
  ·exact h1
  ·rw [h.dead b (.inl (List.getElem?_eq_none h1))] at hL;cases hL
 have hnew:(H.set b (.rows esz g' rs))[b]?=some (.rows esz g' rs):=by simp [hlt]
 refine ⟨h.change (by simpa using hx) b ?_ ?_ ?_ ?_ ?_ ?_ ?_ ?_ ?_,hx⟩
 ·intro k hk;exact List.getElem?_set_ne (Ne.symm hk)
 ·intro k hk;simp [bK,hk]
 ·intro k L' hk hL';exact bq fun e=>hk (h.inj k b L' L hL' hL e.symm)
 ·intro hdd;rw [hnew] at hdd;rcases hdd with e | e<;>cases e
 ·intro L' hL'
  simp only [bK,if_true,Option.some.injEq] at hL'
  subst hL'
  exact ⟨(h.base b L hL).1,by simpa using (h.base b L hL).2,fun k L' hk hL' e=>hk (h.inj k b L' L hL' hL e),h.resn b L hL⟩
 ·intro esz' g'' rs' hb
  rw [hnew] at hb;cases hb
  exact ⟨⟨g',L.cb,L.size⟩,cs,T,fr,by simp [bK],rfl,cM (h.base b L hL).2,hsz,hf,by simpa using hr.mono hx⟩
 ·intro es hb;rw [hnew] at hb;cases hb
 ·intro _ _ _ _ _ _ hb;rw [hnew] at hb;cases hb
 ·intro _ _ _ hb;rw [hnew] at hb;cases hb
theorem HR.move (h:HR N φ H w) {b:Nat} {L:DO} (hL:φ b=some L) {g' esz:Nat} (hg:L.g<g') {cs:Array Value} {T:TypeId} {fr:Nat×Nat} {rs:List (List AV)} (hf:tb N esz g' T fr cs.size) (hr:cH φ H.length w esz rs cs) :
 HR N (bK φ b ⟨g',w.heap.size,cs.size⟩) (H.set b (.rows esz g' rs)) (w.alloc (.cells cs T fr))∧cj φ H.length w (bK φ b ⟨g',w.heap.size,cs.size⟩) H.length (w.alloc (.cells cs T fr)):=by
 have hx:cj φ H.length w (bK φ b ⟨g',w.heap.size,cs.size⟩) H.length (w.alloc (.cells cs T fr)):=by
  refine ⟨Nat.le_refl _,by simp,fun k _ L' hL'=>?_,fun cb o hc hn=>(aX (Array.getElem?_eq_some_iff.1 hc).1).trans hc,fun cb hc hn=>⟨fun k L' hL'=>?_,hn.2⟩,fun cb r hc=>⟨r,(aX (Array.getElem?_eq_some_iff.1 hc).1).trans hc⟩,rfl,fun cb o _ hc=>(aX (Array.getElem?_eq_some_iff.1 hc).1).trans hc,.refl⟩
  ·simp only [bK] at hL'
   split at hL'
   ·rename_i e;subst e;cases hL';exact ⟨L,hL,by simp;omega,fun e=>by simp at e;omega⟩
   ·exact ⟨L',hL',Nat.le_refl _,fun _=>rfl⟩
  ·simp only [bK] at hL'
   split at hL'
   ·cases hL';simp;omega
   ·exact hn.1 k L' hL'
 have hlt:b<H.length:=by
  rcases Nat.lt_or_ge b H.length with h1 | h1
  ·exact h1
  ·rw [h.dead b (.inl (List.getElem?_eq_none h1))] at hL;cases hL
 have hnew:(H.set b (.rows esz g' rs))[b]?=some (.rows esz g' rs):=by simp [hlt]
 refine ⟨h.change (by simpa using hx) b ?_ ?_ ?_ ?_ ?_ ?_ ?_ ?_ ?_,hx⟩
 ·intro k hk;exact List.getElem?_set_ne (Ne.symm hk)
 ·intro k hk;simp [bK,hk]
 ·intro k L' hk hL';exact aX (h.base k L' hL').2
 ·intro hdd;rw [hnew] at hdd;rcases hdd with e | e<;>cases e
 ·intro L' hL'
  simp only [bK,if_true,Option.some.injEq] at hL'
  subst hL'
  exact ⟨h.low,by simp,fun k L' _ hL'=>h.fresh_cb hL',fun hr=>by have:=h.ress _ hr;simp at this⟩
 ·intro esz' g'' rs' hb
  rw [hnew] at hb;cases hb
  exact ⟨⟨g',w.heap.size,cs.size⟩,cs,T,fr,by simp [bK],rfl,be,rfl,hf,by simpa using hr.mono hx⟩
 ·intro es hb;rw [hnew] at hb;cases hb
 ·intro _ _ _ _ _ _ hb;rw [hnew] at hb;cases hb
 ·intro _ _ _ hb;rw [hnew] at hb;cases hb
theorem Dr {i j s:Nat} (hj:j<s):(i*s+j) % s=j:=by
 rw [Nat.mul_comm,Nat.mul_add_mod];exact Nat.mod_eq_of_lt hj
theorem pz {i j s n:Nat} (hi:i<n) (hj:j<s):i*s+j<n*s:=by
 have:=Nat.mul_le_mul_right s (show i+1≤n by omega)
 rw [Nat.add_mul,Nat.one_mul] at this
 omega
theorem rG {n:Nat} {z:AV} {Z:Value} {s:Nat} (hz:RV φ n w z Z) (hl:z.cells.all AV.leaf=true) (hs:z.cells.length=s) (k:Nat) :
 cH φ n w s (List.replicate k z.cells) ((Array.range (k*s)).map (Z.cells[· % Z.cells.size]!)):=by
 obtain ⟨h1,h2,_⟩:=hz.cells hl
 refine ⟨by simp,fun i row hi=>?_⟩
 obtain ⟨hik,rfl⟩:i<k∧z.cells=row:=by
  rw [List.getElem?_replicate] at hi
  split at hi
  ·exact ⟨by assumption,Option.some.inj hi⟩
  ·cases hi
 refine ⟨hs,fun j v hj=>?_⟩
 obtain ⟨h3,X,h4,h5⟩:=h2 j v hj
 have hjs:j<s:=by rw [←hs];exact bh hj
 refine ⟨h3,X,?_,h5⟩
 have hlt:=pz hik hjs
 rw [Array.getElem?_map,Array.getElem?_range,if_pos hlt]
 simp only [Option.map_some,Option.some.injEq]
 rw [h1,hs,Dr hjs,getElem!_def,h4]
theorem tX {n s:Nat}:∀{parts:List (Nat×AV)} {Parts:List (Nat×Value)} {rows rows':List (List AV)} {cs:Array Value},cH φ n w s rows cs→
 kN (fun p Q=>p.1=Q.1∧RV φ n w p.2 Q.2) parts Parts→au s rows parts=some rows'→∃cs',Instr.fill (fun i=>some (i*s,s)) cs Parts=some cs'∧cH φ n w s rows' cs'∧rows'.length=rows.length:=by
 intro parts
 induction parts with
 | nil =>
  intro Parts rows rows' cs h hp hf
  cases hp
  simp only [au,Option.some.injEq] at hf
  subst hf
  exact ⟨cs,rfl,h,rfl⟩
 | cons p parts ih =>
  intro Parts rows rows' cs h hp hf
  cases hp with
  | cons h1 h2 =>
   rename_i Q Qs
   obtain ⟨i,v⟩:=p
   obtain ⟨i',V⟩:=Q
   obtain ⟨rfl,hv⟩:=h1
   simp only [au] at hf
   split at hf
   ·rename_i hc
    obtain ⟨hsz,hil,hl⟩:=hc
    obtain ⟨h5,h6,_⟩:=RV.cells hv hl
    simp only at h5 h6
    obtain ⟨row,hrow⟩:∃row,rows[i]?=some row:=⟨_,List.getElem?_eq_getElem hil⟩
    have hrl:=(h.2 i row hrow).1
    have hs:=h.splice (i:=i) (off:=0) (news:=v.cells) hrow (by omega) (Vs:=V.cells.toList) (by simpa using h5) (fun j x hj=>by obtain ⟨a,X,b,c⟩:=h6 j x hj;exact ⟨a,X,by simpa using b,c⟩)
    have he:row.take 0++v.cells++row.drop (0+v.cells.length)=v.cells:=by
     rw [List.take_zero,List.nil_append,List.drop_eq_nil_of_le (by omega),List.append_nil]
    rw [he,Nat.add_zero] at hs
    obtain ⟨cs',h7,h8,h9⟩:=ih hs h2 hf
    refine ⟨cs',?_,h8,by rw [h9];simp⟩
    have hfit:i*s+s≤cs.size:=by
     have h10:=Nat.mul_le_mul_right s (show i+1≤rows.length by omega)
     rw [Nat.add_mul,Nat.one_mul] at h10
     have:=h.1
     omega
    simp only [Instr.fill]
    have hno:¬((decide (V.cells.size≠s)||decide (i*s+V.cells.size > cs.size))=true):=by simp [h5,hsz];omega
    rw [if_neg hno]
    have hfold:=ud (i*s) V.cells.toList 0 cs (by simp;omega)
    rw [Nat.add_zero] at hfold
    rw [←Array.foldl_toList,Array.toList_zipIdx,hfold]
    exact h7
   ·cases hf
theorem Dp {n s cap:Nat} {rows:List (List AV)} {cs:Array Value} {e:Bool} (h:cH φ n w s rows cs) (T:TypeId) (hc:rows.length≤cap) (he:e=true→cap=rows.length) (hlive:∀b L,φ b=some L→L.cb<w.heap.size) (hress:∀cb,φ.res cb→cb<w.heap.size) :
 RV φ n (w.alloc (.cells cs T (0,0))) (.lst rows e) (.slice (some ⟨w.heap.size,0,none⟩) rows.length cap):=by
 have hx:cj φ n w φ n (w.alloc (.cells cs T (0,0))):=cj.alloc_out _
 refine .lst (fun i j=>(cs[i*s+j]?).getD Go.undef) s rfl hc he (fun _=>⟨_,_,rfl,fun i row hi=>⟨(h.2 i row hi).1,fun j v hj=>?_⟩⟩) (fun i row hi j v hj=>?_)
 ·obtain ⟨h1,V,h2,h3⟩:=(h.2 i row hi).2 j v hj
  refine ⟨h1,⟨fun b L hL=>by have:=hlive b L hL;simp;omega,fun hr=>by have:=hress _ hr;simp at this⟩,?_⟩
  unfold World.cell?
  simp only [be,Nat.zero_add,h2,Option.getD_some,Option.isSome_none,Bool.false_eq_true,if_false]
 ·obtain ⟨h1,V,h2,h3⟩:=(h.2 i row hi).2 j v hj
  simp only [h2,Option.getD_some]
  exact h3.mono hx
theorem p4 (hH:HR N φ H w) {t:TypeId} {len:Nat} {parts:List (Nat×AV)} {Parts:Array (Nat×Value)} (hp:kN (fun p Q=>p.1=Q.1∧RV φ H.length w p.2 Q.2) parts Parts.toList) {v:AV} (h:aj P t len parts=some v) :
 ∃V w',(Instr.buildSlice t len Parts).run P w=.ok V w'∧RV φ H.length w' v V∧HR N φ H w'∧cj φ H.length w φ H.length w':=by
 unfold aj at h
 have hlive:∀b L,φ b=some L→L.cb<w.heap.size:=fun b L hL=>(hH.base b L hL).2
 split at h
 ·rename_i elem hu
  split at h
  ·rename_i s hs
   split at h
   ·rename_i hc
    obtain ⟨hc1,hc2⟩:=hc
    split at h
    ·rename_i h0
     subst h0
     split at h
     ·rename_i hem
      cases h
      have hP:Parts.toList=[]:=by
       revert hp
       generalize Parts.toList=l
       intro hp
       cases hp with
       | nil=>rfl
       | cons h t=>simp at hem
      have hPs:Parts=#[]:=by cases Parts;simp at hP;subst hP;rfl
      subst hPs
      refine ⟨_,_,?_,Dp (rows:=[]) (cs:=#[]) (s:=s) (cap:=0) ⟨by simp,fun i row hi=>by simp at hi⟩ elem (Nat.le_refl _) (fun _=>rfl) hlive hH.ress,hH.alloc_out _,cj.alloc_out _⟩
      have Di:∀f:Nat→Value,(Array.range 0).map f=#[]:=fun f=>by apply Array.ext';simp
      simp only [Instr.buildSlice,Sem.run_bind,aL hu,bI hs,Result.andThen,Nat.zero_mul,Instr.fill,Di]
      simp [newRow]
     ·cases h
    ·rename_i h0
     split at h
     ·rename_i z hz
      split at h
      ·rename_i hzl
       cases hf:au s (List.replicate len z.cells) parts with
       | none=>rw [hf] at h;cases h
       | some rows =>
        rw [hf] at h;cases h
        obtain ⟨i,Z,hi,hiz,hrun,hrv,hl⟩:=db (φ:=φ) (n:=H.length) (w:=w) hz
        obtain ⟨cs',h1,h2,h3⟩:=tX (rG hrv hl hzl len) hp hf
        have hlen:rows.length=len:=by simpa using h3
        have hne:len*s≠0:=Nat.mul_ne_zero h0 (by omega)
        refine ⟨_,_,?_,Dp (cap:=rows.length) h2 elem (Nat.le_refl _) (fun _=>rfl) hlive hH.ress,hH.alloc_out _,cj.alloc_out _⟩
        have hbig:¬(len*s > 16777216):=by omega
        simp [Instr.buildSlice,aL hu,bI hs,hbig,hne,hrun,newRow,Result.andThen,h1,hlen]
      ·cases h
     ·cases h
   ·cases h
  ·cases h
 ·cases h
end Go.Proofs.Ev
