/- Part 3 of the proof that quiltlaw38.BlameNames returns true: no statement of its own. -/
import Derived.Test.YtckbkhfaahpanaaGreatDoorN2
import Derived.Laws.StructEq
set_option linter.all false
namespace Go.Proofs.Ev
open Go.RowKit
variable {P:Program} {N:Low} {φ φ':Phi} {H H':Heap} {w w':World}
def Reads (φ:Phi) (n:Nat) (w:World) (X:Value) (rows:List (List AV)):Prop :=
 ∃base cap,X=.slice base rows.length cap∧rows.length≤cap∧(rows≠[]→∃a esz,base=some a∧a.spot=none∧∀(i:Nat) (row:List AV),rows[i]?=some row→row.length=esz∧
  ∀(j:Nat) (v:AV),row[j]?=some v→v.leaf=true∧∃U,w.cell? ⟨a.block,a.off+i*esz+j,none⟩=some U∧RV φ n w v U)
theorem rowsOf_sound (hH:HR N φ H w) {x:AV} {X:Value} (hx:RV φ H.length w x X) {rows:List (List AV)} (h:rowsOf H x=some rows):Reads φ H.length w X rows:=by
 unfold rowsOf at h
 split at h
 ·cases h
  cases hx with
  | lst Vs esz hlen hcap he hb hr =>
   subst hlen
   refine ⟨_,_,rfl,hcap,fun hne=>?_⟩
   obtain ⟨cb,off,rfl,hc⟩:=hb hne
   exact ⟨_,esz,rfl,rfl,fun i row hi=>⟨(hc i row hi).1,fun j v hj=>⟨((hc i row hi).2 j v hj).1,Vs i j,((hc i row hi).2 j v hj).2.2,hr i row hi j v hj⟩⟩⟩
 ·rename_i b g esz lo len
  split at h
  ·rename_i esz' g' rs hblk
   split at h
   ·rename_i hc
    obtain ⟨rfl,rfl,hle⟩:=hc
    cases h
    obtain ⟨L,cs,T,fr,h1,h2,h3,h4,h5,h6⟩:=hH.rows _ _ _ _ hblk
    cases hx with
    | sl hb hcap hh =>
     rename_i cap a
     have ha:=((hh L h1).2 h2.symm).1
     subst ha
     have hlen:((rs.drop lo).take len).length=len:=by simp;omega
     refine ⟨_,cap,by rw [hlen],by rw [hlen];exact hcap,fun _=>⟨_,esz,rfl,rfl,fun i row hi=>?_⟩⟩
     rw [List.getElem?_take] at hi
     split at hi
     ·rw [List.getElem?_drop] at hi
      obtain ⟨h7,h8⟩:=h6.2 _ row hi
      refine ⟨h7,fun j v hj=>?_⟩
      obtain ⟨h9,V,h10,h11⟩:=h8 j v hj
      refine ⟨h9,V,?_,h11⟩
      unfold World.cell?
      simp only [h3,Option.isSome_none,Bool.false_eq_true,if_false]
      rw [←Nat.add_mul];exact h10
     ·cases hi
   ·cases h
  ·cases h
 ·rename_i b g esz i0 off len
  split at h
  ·rename_i esz' g' rs hblk
   split at h
   ·rename_i hc
    obtain ⟨rfl,rfl⟩:=hc
    split at h
    ·rename_i row hrow
     split at h
     ·rename_i hfit
      cases h
      obtain ⟨L,cs,T,fr,h1,h2,h3,h4,h5,h6⟩:=hH.rows _ _ _ _ hblk
      cases hx with
      | asl hb hcap hh =>
       rename_i cap a
       have ha:=(hh L h1).2 h2.symm
       subst ha
       have hlen:(((row.drop off).take len).map fun c=>[c]).length=len:=by simp;omega
       refine ⟨_,cap,by rw [hlen],by rw [hlen];exact hcap,fun _=>⟨_,1,rfl,rfl,fun i r hi=>?_⟩⟩
       rw [List.getElem?_map,List.getElem?_take] at hi
       split at hi
       ·rw [List.getElem?_drop] at hi
        cases hv:row[off+i]? with
        | none=>rw [hv] at hi;cases hi
        | some v =>
         rw [hv] at hi;cases hi
         refine ⟨rfl,fun j v' hj=>?_⟩
         cases j with
         | succ j=>simp at hj
         | zero =>
          simp at hj;subst hj
          obtain ⟨h9,V,h10,h11⟩:=(h6.2 i0 row hrow).2 _ v hv
          refine ⟨h9,V,?_,h11⟩
          unfold World.cell?
          simp only [h3,Option.isSome_none,Bool.false_eq_true,if_false,Nat.mul_one,Nat.add_zero]
          rw [Nat.add_assoc];exact h10
       ·cases hi
     ·cases h
    ·cases h
   ·cases h
  ·cases h
 ·cases h
def Cells (φ:Phi) (n:Nat) (w:World) (sz:Nat) (rows:List (List AV)) (news:List Value):Prop :=
 news.length=rows.length*sz∧(∀X∈news,X.oneCell'=true)∧∀(i:Nat) (row:List AV),rows[i]?=some row→row.length=sz∧∀(j:Nat) (v:AV),row[j]?=some v→v.leaf=true∧∃U,news[i*sz+j]?=some U∧RV φ n w v U
theorem Reads.cells {n:Nat} {X:Value} {rows:List (List AV)} (h:Reads φ n w X rows) {sz:Nat} (hsz:∀r∈rows,r.length=sz) (k:Nat) (hk:k≤rows.length) :
 ∃news,(Builtin.firstCells sz k X).run P w=.ok news.toArray w∧Cells φ n w sz (rows.take k) news:=by
 obtain ⟨base,cap,rfl,hcap,hr⟩:=h
 by_cases hne:rows=[]
 ·subst hne
  have hk0:k=0:=by simpa using hk
  subst hk0
  refine ⟨[],?_,by simp,by simp,fun i row hi=>by simp at hi⟩
  cases base<;>simp [Builtin.firstCells,loadCells,loadCellsFrom]
 ·obtain ⟨a,esz,rfl,hs,hc⟩:=hr hne
  have hes:esz=sz:=by
   cases rows with
   | nil=>exact absurd rfl hne
   | cons r rest=>rw [←hsz r (by simp)];exact ((hc 0 r rfl).1).symm
  subst hes
  have hcell:∀i j,i<k→j<esz→∃row v U,rows[i]?=some row∧row[j]?=some v∧v.leaf=true∧w.cell? (a.add (i*esz+j))=some U∧RV φ n w v U:=by
   intro i j hi hj
   have h1:rows[i]?=some rows[i]:=List.getElem?_eq_getElem (by omega)
   obtain ⟨h2,h3⟩:=hc i _ h1
   have h4:rows[i][j]?=some rows[i][j]:=List.getElem?_eq_getElem (by omega)
   obtain ⟨h5,U,h6,h7⟩:=h3 j _ h4
   exact ⟨_,_,U,h1,h4,h5,by rw [add_addr hs,←Nat.add_assoc];exact h6,h7⟩
  have hat:∀m,m<k*esz→∃i j,m=i*esz+j∧i<k∧j<esz:=by
   intro m hm
   have hpos:0<esz:=by
    rcases Nat.eq_zero_or_pos esz with e | e
    ·rw [e] at hm;simp at hm
    ·exact e
   refine ⟨m / esz,m % esz,?_,?_,Nat.mod_lt _ hpos⟩
   ·rw [Nat.mul_comm];exact (Nat.div_add_mod m esz).symm
   ·exact Nat.div_lt_of_lt_mul (by rw [Nat.mul_comm];exact hm)
  refine ⟨(List.range (k*esz)).map fun m=>(w.cell? (a.add m)).getD Go.undef,?_,?_,?_,?_⟩
  ·have:=run_loadCells (P:=P) w a (k*esz) (fun m=>(w.cell? (a.add m)).getD Go.undef) (fun m hm=>by
    obtain ⟨i,j,rfl,hi,hj⟩:=hat m hm
    obtain ⟨_,_,U,_,_,_,h6,_⟩:=hcell i j hi hj
    simp [h6])
   simp only [Builtin.firstCells]
   exact this
  ·simp [Nat.min_eq_left hk]
  ·intro X hX
   obtain ⟨m,hm,rfl⟩:=List.mem_map.1 hX
   obtain ⟨i,j,rfl,hi,hj⟩:=hat m (List.mem_range.1 hm)
   obtain ⟨_,v,U,_,_,h5,h6,h7⟩:=hcell i j hi hj
   rw [h6];exact h7.oneCell h5
  ·intro i row hi
   rw [List.getElem?_take] at hi
   split at hi
   ·rename_i hik
    refine ⟨hsz row (List.mem_of_getElem? hi),fun j v hj=>?_⟩
    have hjl:j<esz:=by rw [←hsz row (List.mem_of_getElem? hi)];exact lt_of_get hj
    obtain ⟨row',v',U,h1,h2,h5,h6,h7⟩:=hcell i j hik hjl
    rw [hi] at h1;cases h1
    rw [hj] at h2;cases h2
    refine ⟨h5,U,?_,h7⟩
    rw [List.getElem?_map,List.getElem?_range (row_lt hik hjl)]
    simp [h6]
   ·cases hi
theorem str_cells {n:Nat} (l:List UInt8) (k:Nat) (hk:k≤l.length):∃news,(∀w0:World,(Builtin.firstCells 1 k (.string ⟨⟨l⟩⟩)).run P w0=.ok news.toArray w0)∧Cells φ n w 1 ((l.map fun b=>[AV.int .u8 b.toNat]).take k) news:=by
 refine ⟨(l.take k).map fun b=>Value.int .u8 b.toNat,fun w0=>?_,by simp [Nat.min_eq_left hk],fun X hX=>?_,fun i row hi=>?_⟩
 ·simp only [Builtin.firstCells,Sem.run_pure,extract_bytes,List.drop_zero]
  congr 1
  apply Array.ext'
  simp
 ·obtain ⟨b,_,rfl⟩:=List.mem_map.1 hX;rfl
 ·rw [List.getElem?_take] at hi
  split at hi
  ·rename_i hik
   rw [List.getElem?_map] at hi
   cases hb:l[i]? with
   | none=>rw [hb] at hi;cases hi
   | some b =>
    rw [hb] at hi;cases hi
    refine ⟨rfl,fun j v hj=>?_⟩
    cases j with
    | succ j=>simp at hj
    | zero =>
     simp at hj;subst hj
     refine ⟨rfl,.int .u8 b.toNat,?_,.int _ _⟩
     rw [List.getElem?_map,Nat.mul_one,Nat.add_zero,List.getElem?_take,if_pos hik,hb];rfl
  ·cases hi
theorem RowsAt.append {n sz:Nat} {rs ys:List (List AV)} {cs:Array Value} (h:RowsAt φ n w sz rs cs) {news:List Value} (hc:Cells φ n w sz ys news) (hfit:(rs.length+ys.length)*sz≤cs.size) :
 RowsAt φ n w sz (rs++ys) (spl cs (rs.length*sz) news):=by
 have hl:=hc.1
 have hf:rs.length*sz+news.length≤cs.size:=by rw [hl,←Nat.add_mul];exact hfit
 refine ⟨by rw [spl_size hf,List.length_append];exact hfit,fun i row hi=>?_⟩
 rcases Nat.lt_or_ge i rs.length with hlt | hge
 ·rw [List.getElem?_append_left hlt] at hi
  obtain ⟨h1,h2⟩:=h.2 i row hi
  refine ⟨h1,fun j v hj=>?_⟩
  have:=row_lt hlt (show j<sz by rw [←h1];exact lt_of_get hj)
  rw [spl_at hf,if_neg (by omega)]
  exact h2 j v hj
 ·rw [List.getElem?_append_right hge] at hi
  obtain ⟨h1,h2⟩:=hc.2.2 _ row hi
  refine ⟨h1,fun j v hj=>?_⟩
  obtain ⟨h3,U,h4,h5⟩:=h2 j v hj
  have hil:=lt_of_get hi
  have hjl:j<sz:=by rw [←h1];exact lt_of_get hj
  have e:i*sz=rs.length*sz+(i-rs.length)*sz:=by rw [←Nat.add_mul];congr 1;omega
  have:=row_lt hil hjl
  rw [spl_at hf,if_pos (by omega)]
  refine ⟨h3,U,?_,h5⟩
  have:i*sz+j-rs.length*sz=(i-rs.length)*sz+j:=by omega
  rw [this];exact h4
theorem Cells.rowsAt {n sz:Nat} {xs ys:List (List AV)} {old news:List Value} (h1:Cells φ n w sz xs old) (h2:Cells φ n w sz ys news) (rest:Array Value):RowsAt φ n w sz (xs++ys) (old.toArray++news.toArray++rest):=by
 have hl1:=h1.1
 have hl2:=h2.1
 refine ⟨by simp [hl1,hl2,Nat.add_mul],fun i row hi=>?_⟩
 rcases Nat.lt_or_ge i xs.length with hlt | hge
 ·rw [List.getElem?_append_left hlt] at hi
  obtain ⟨h3,h4⟩:=h1.2.2 i row hi
  refine ⟨h3,fun j v hj=>?_⟩
  obtain ⟨h5,U,h6,h7⟩:=h4 j v hj
  have:=row_lt hlt (show j<sz by rw [←h3];exact lt_of_get hj)
  refine ⟨h5,U,?_,h7⟩
  rw [Array.append_assoc,Array.getElem?_append_left (by simp;omega)]
  simpa using h6
 ·rw [List.getElem?_append_right hge] at hi
  obtain ⟨h3,h4⟩:=h2.2.2 _ row hi
  refine ⟨h3,fun j v hj=>?_⟩
  obtain ⟨h5,U,h6,h7⟩:=h4 j v hj
  have hil:=lt_of_get hi
  have hjl:j<sz:=by rw [←h3];exact lt_of_get hj
  have e:i*sz=xs.length*sz+(i-xs.length)*sz:=by rw [←Nat.add_mul];congr 1;omega
  have:=row_lt hil hjl
  refine ⟨h5,U,?_,h7⟩
  rw [Array.append_assoc,Array.getElem?_append_right (by simp;omega),Array.getElem?_append_left (by simp;omega)]
  have:i*sz+j-old.toArray.size=(i-xs.length)*sz+j:=by simp;omega
  rw [this];simpa using h6
theorem growBy_le (need:Nat):∀(r c:Nat),256≤c→c<2*need→Builtin.growBy need r c≤2*need
 | 0,c,_,h=>Nat.le_of_lt h
 | r+1,c,h0,h=>by
  unfold Builtin.growBy
  split
  ·exact Nat.le_of_lt h
  ·rename_i hc
   have:(c+768) / 4≤c:=by omega
   rcases Nat.lt_or_ge (c+(c+768) / 4) (2*need) with h1 | h1
   ·exact growBy_le need r _ (by omega) h1
   ·omega
theorem nextcap_le {need c:Nat} (h:c<need):Builtin.nextslicecap need c≤2*need:=by
 unfold Builtin.nextslicecap
 split
 ·omega
 ·split
  ·omega
  ·exact growBy_le need 4 c (by omega) (by omega)
theorem tail_cells (hH:HR N φ H w) {xd:TypeDesc} {x:AV} {X:Value} (hx:RV φ H.length w x X) {sz:Nat} {ys:List (List AV)} (h:tailRows H xd x=some ys) (hsz:∀r∈ys,r.length=sz) :
 (∀w0:World,(Builtin.lenOf X).run P w0=.ok ys.length w0)∧(∀k,k≤ys.length→∃news,(Builtin.firstCells sz k X).run P w=.ok news.toArray w∧Cells φ H.length w sz (ys.take k) news)∧(xd=.string∨∃e,xd=.slice e):=by
 unfold tailRows at h
 split at h
 ·rename_i l
  cases h
  cases hx
  refine ⟨fun w0=>by simp [Builtin.lenOf];rfl,fun k hk=>?_,.inl rfl⟩
  cases l with
  | nil =>
   simp at hk;subst hk
   refine ⟨[],?_,by simp,by simp,fun i row hi=>by simp at hi⟩
   simp [Builtin.firstCells]
  | cons b l =>
   have:sz=1:=(hsz [.int .u8 b.toNat] (by simp)).symm
   subst this
   obtain ⟨news,h1,h2⟩:=str_cells (P:=P) (φ:=φ) (n:=H.length) (w:=w) (b::l) k (by simpa using hk)
   exact ⟨news,h1 w,h2⟩
 ·obtain ⟨base,cap,rfl,h2⟩:=rowsOf_sound hH hx h
  exact ⟨fun w0=>by simp [Builtin.lenOf],fun k hk=>Reads.cells ⟨base,cap,rfl,h2⟩ hsz k hk,.inr ⟨_,rfl⟩⟩
 ·cases h
theorem run_append_in {ats:Array TypeId} {t0 t1 elem ty:TypeId} {ie:TypeInfo} {X:Value} {n sLen sCap:Nat} {b0:Option Addr} {news:List Value} (h0:ats[0]?=some t0) (h1:ats[1]?=some t1) (hu0:P.underlying t0=some (.slice elem))
 (hu1:P.underlying t1=some .string∨∃e,P.underlying t1=some (.slice e)) (hi:P.info? elem=some ie) (hlen:(Builtin.lenOf X).run P w=.ok n w) (hf:(Builtin.firstCells ie.size n X).run P w=.ok news.toArray w) (hroom:sLen+n≤sCap)
 {w1:World} (hst:(match b0 with | some a=>storeCells (a.add (sLen*ie.size)) news | none=>(pure ():Sem Unit)).run P w=.ok () w1) :
 (Builtin.append_ ats ty #[.slice b0 sLen sCap,X]).run P w=.ok (.slice b0 (sLen+n) sCap) w1:=by
 rcases hu1 with h | ⟨e,h⟩
 all_goals
  cases b0 with
  | none =>
   simp only [Sem.run_pure] at hst
   cases hst
   simp [Builtin.append_,h0,h1,run_underlying hu0,run_underlying h,sizeOf,typeInfo,hi,hlen,hroom,hf]
  | some a =>
   simp only at hst
   simp [Builtin.append_,h0,h1,run_underlying hu0,run_underlying h,sizeOf,typeInfo,hi,hlen,hroom,hf,hst]
theorem run_append_new {ats:Array TypeId} {t0 t1 elem ty:TypeId} {ie:TypeInfo} {X Z:Value} {n sLen sCap:Nat} {b0:Option Addr} {old news:Array Value} (h0:ats[0]?=some t0) (h1:ats[1]?=some t1) (hu0:P.underlying t0=some (.slice elem))
 (hu1:P.underlying t1=some .string∨∃e,P.underlying t1=some (.slice e)) (hi:P.info? elem=some ie) (hz:ie.zero=some Z) (hlen:(Builtin.lenOf X).run P w=.ok n w) (hf:(Builtin.firstCells ie.size n X).run P w.drew=.ok news w.drew)
 (ho:(Builtin.firstCells ie.size sLen (.slice b0 sLen sCap)).run P w.drew=.ok old w.drew) (hroom:sCap<sLen+n) (hb:(sLen+n)*(ie.bytes+1)≤2^45) :
 ∃newCap,sLen+n≤newCap∧(Builtin.append_ ats ty #[.slice b0 sLen sCap,X]).run P w =
  .ok (.slice (some ⟨w.heap.size,0,none⟩) (sLen+n) newCap) (w.drew.alloc (.cells (old++news++Builtin.zeroCells Z.cells (newCap-(sLen+n))) elem (0,0))):=by
 have hn:¬(sLen+n≤sCap):=by omega
 have hsmall:sLen+n≤2^45:=Nat.le_trans (Nat.le_mul_of_pos_right _ (Nat.succ_pos _)) hb
 have h63:¬(((sLen+n:Nat):Int) > IntKind.i64.max):=by
  have:IntKind.i64.max=9223372036854775807:=by decide
  rw [this];omega
 have h63':¬(9223372036854775807<(sLen:Int)+n):=by omega
 have h48:¬(Builtin.nextslicecap (sLen+n) sCap*ie.bytes > 2^48):=by
  have h2:=Nat.mul_le_mul_right ie.bytes (nextcap_le hroom)
  have h3:(sLen+n)*ie.bytes≤(sLen+n)*(ie.bytes+1):=Nat.mul_le_mul_left _ (Nat.le_succ _)
  rw [Nat.mul_assoc] at h2
  omega
 have h48':¬(281474976710656<Builtin.nextslicecap (sLen+n) sCap*ie.bytes):=h48
 have hmax:IntKind.i64.max=9223372036854775807:=by decide
 refine ⟨sLen+n+(w.tape w.drawn (.appendCap (sLen+n) sCap elem)) % (2^63-(sLen+n)),by omega,?_⟩
 rcases hu1 with h | ⟨e,h⟩
 all_goals
  simp [Builtin.append_,h0,h1,run_underlying hu0,run_underlying h,sizeOf,typeInfo,zeroValue,hi,hz,hlen,hn,hmax,h63',h48',Question.forced,Question.cut,hf,ho,newRow]
theorem Reads.drew {n:Nat} {X:Value} {rows:List (List AV)} (h:Reads φ n w X rows):Reads φ n w.drew X rows:=by
 obtain ⟨base,cap,rfl,h1,h2⟩:=h
 refine ⟨base,cap,rfl,h1,fun hne=>?_⟩
 obtain ⟨a,esz,h3,h4,h5⟩:=h2 hne
 exact ⟨a,esz,h3,h4,fun i row hi=>⟨(h5 i row hi).1,fun j v hj=>by obtain ⟨h6,U,h7,h8⟩:=(h5 i row hi).2 j v hj;exact ⟨h6,U,h7,h8.mono .drew⟩⟩⟩
theorem appendA_sound (htag:TagOK P N) (hH:HR N φ H w) {base:Nat} (hbase:base≤H.length) {argTypes:Array TypeId} {s x v:AV} {S X:Value} (hs:RV φ H.length w s S) (hx:RV φ H.length w x X) (h:appendA P base H argTypes s x=some (v,H')) (ty:TypeId) :
 ∃V w' φ',(Builtin.append_ argTypes ty #[S,X]).run P w=.ok V w'∧RV φ' H'.length w' v V∧HR N φ' H' w'∧Ext φ H.length w φ' H'.length w'∧∀b,b<base→H'[b]?=H[b]?:=by
 unfold appendA at h
 cases h0:argTypes[0]? with
 | none=>rw [h0] at h;cases h
 | some t0 =>
 cases h1:argTypes[1]? with
 | none=>rw [h0,h1] at h;simp only [Option.bind_some,Option.bind_none] at h;split at h<;>first | cases h | (rename_i hh;cases hh)
 | some t1 =>
 rw [h0,h1] at h
 simp only [Option.bind_some] at h
 split at h
 ·rename_i elem xd hu0 hu1
  split at h
  ·rename_i sz by_ hsz hby
   obtain ⟨ie,hie,rfl⟩:=szOf_some hsz
   obtain ⟨ie',hie',hby'⟩:=bytesOf_some hby
   rw [hie] at hie';cases hie'
   subst hby'
   split at h
   ·rename_i ys hys
    split at h
    ·rename_i hc
     obtain ⟨hall,hpos,hz⟩:=hc
     rw [List.all_eq_true] at hall
     have hall':∀r∈ys,r.length=ie.size:=fun r hr=>by simpa using hall r hr
     obtain ⟨hlen,hcells,hxd⟩:=tail_cells (P:=P) hH hx hys hall'
     have hu1':P.underlying t1=some .string∨∃e,P.underlying t1=some (.slice e):=by
      rcases hxd with e | ⟨e,e'⟩
      ·exact .inl (by rw [hu1,e])
      ·exact .inr ⟨e,by rw [hu1,e']⟩
     obtain ⟨z,hz1,hz2⟩:∃z,ofZero P elem=some z∧z.cells.length=ie.size:=by
      cases hzz:ofZero P elem with
      | none=>rw [hzz] at hz;cases hz
      | some z=>rw [hzz] at hz;exact ⟨z,rfl,by simpa using hz⟩
     obtain ⟨i',Z,hi',hiz,_,hrz,hlz⟩:=ofZero_sound (φ:=φ) (n:=H.length) (w:=w) hz1
     rw [hie] at hi';cases hi'
     have hZ:Z.cells.size=ie.size:=by rw [(hrz.cells hlz).1,hz2]
     have fresh:∀(xs:List (List AV)) (b0:Option Addr) (sCap:Nat),(∀r∈xs,r.length=ie.size)→Reads φ H.length w (.slice b0 xs.length sCap) xs→sCap<xs.length+ys.length→(xs.length+ys.length)*(ie.bytes+1)≤2^45→
      ∃newCap cs,xs.length+ys.length≤newCap∧(Builtin.append_ argTypes ty #[.slice b0 xs.length sCap,X]).run P w=.ok (.slice (some ⟨w.heap.size,0,none⟩) (xs.length+ys.length) newCap) (w.drew.alloc (.cells cs elem (0,0)))∧
       RowsAt φ H.length w.drew ie.size (xs++ys) cs∧newCap*ie.size≤cs.size:=by
      intro xs b0 sCap hxs hrd hroom hb
      obtain ⟨old,ho1,ho2⟩:=(hrd.drew).cells (P:=P) hxs xs.length (Nat.le_refl _)
      obtain ⟨hlen',hcells',_⟩:=tail_cells (P:=P) hH.drew (hx.mono .drew) hys hall'
      obtain ⟨news,hn1,hn2⟩:=hcells' ys.length (Nat.le_refl _)
      rw [List.take_length] at ho2 hn2
      obtain ⟨newCap,h2,h3⟩:=run_append_new (ty:=ty) h0 h1 hu0 hu1' hie hiz (hlen w) hn1 ho1 hroom hb
      refine ⟨newCap,_,h2,h3,ho2.rowsAt hn2 _,?_⟩
      have hzc:=size_zeroCells Z.cells (newCap-(xs.length+ys.length))
      simp only [Array.size_append,List.size_toArray,hzc,hZ,ho2.1,hn2.1]
      rw [←Nat.add_mul,←Nat.add_mul]
      exact Nat.mul_le_mul_right _ (by omega)
     split at h
     ·rename_i rows e
      split at h
      ·rename_i hem
       cases h
       have hys0:ys=[]:=by cases ys;rfl;simp at hem
       subst hys0
       have hs':=hs
       cases hs with
       | lst Vs esz hl hcap he hb hr =>
        rename_i b0 len cap
        obtain ⟨news,hn1,hn2⟩:=hcells 0 (Nat.zero_le _)
        have hn0:news=[]:=by have:=hn2.1;simp at this;exact this
        subst hn0
        refine ⟨_,w,φ,run_append_in (ty:=ty) (news:=[]) (w1:=w) h0 h1 hu0 hu1' hie (hlen w) hn1 (by simpa using hcap) ?_,by simpa using hs',hH,.refl,fun _ _=>rfl⟩
        cases b0<;>simp [storeCells]
      ·rename_i hem
       split at h
       ·rename_i hc2
        obtain ⟨he,hb,hrows⟩:=hc2
        cases h
        rw [List.all_eq_true] at hrows
        have hrows':∀r∈rows,r.length=ie.size:=fun r hr=>by simpa using hrows r hr
        have hrd:=rowsOf_sound hH hs (rows:=rows) rfl
        have hs':=hs
        cases hs with
        | lst Vs esz hl hcap he' hb' hr =>
         rename_i b0 len cap
         subst hl
         have hcp:=he' he
         subst hcp
         have hyl:0<ys.length:=by cases ys;simp at hem;simp
         obtain ⟨newCap,cs,h2,h3,h4,h5⟩:=fresh rows b0 rows.length hrows' hrd (by omega) hb
         have hal:=hH.drew.alloc (.cells cs elem (0,0)) (clsG P elem ie.size) cs.size (.rows ie.size (clsG P elem ie.size) (rows++ys)) (by simp) (by intro a b c e;cases e;exact ⟨cs,elem,(0,0),rfl,rfl,rfl,⟨.zero _,clsG_row htag,fun _=>.zero _⟩,h4⟩) (by simp) (by simp)
         refine ⟨_,_,_,h3,?_,hal,by simpa using Ext.trans Ext.drew (Ext.alloc (.cells cs elem (0,0)) (clsG P elem ie.size) cs.size),fun b hb=>List.getElem?_append_left (by omega)⟩
         refine .sl (by simp) h2 fun L hL=>?_
         simp only [addLoc,if_true,Option.some.injEq] at hL
         subst hL
         exact ⟨Nat.le_refl _,fun _=>⟨by simp,by simpa using h5⟩⟩
       ·cases h
     ·rename_i b g esz len
      split at h
      ·rename_i esz' g' rs hblk
       split at h
       ·rename_i hc2
        obtain ⟨hb0,rfl,rfl,hse,rfl,hbd⟩:=hc2
        cases h
        subst hse
        obtain ⟨L,cs,T,fr,e1,e2,e3,e4,e5,e6⟩:=hH.rows _ _ _ _ hblk
        have hrd:=rowsOf_sound hH hs (rows:=rs) (by simp [rowsOf,hblk])
        cases hs with
        | sl hb hcap hh =>
         rename_i cap a
         obtain ⟨ha,hfit⟩:=(hh L e1).2 e2.symm
         subst ha
         rw [Nat.zero_add] at hfit
         have hrows':∀r∈rs,r.length=ie.size:=fun r hr=>by obtain ⟨i,hi⟩:=List.getElem?_of_mem hr;exact (e6.2 i r hi).1
         by_cases hroom:rs.length+ys.length≤cap
         ·obtain ⟨news,hn1,hn2⟩:=hcells ys.length (Nat.le_refl _)
          rw [List.take_length] at hn2
          have hfit2:(rs.length+ys.length)*ie.size≤cs.size:=by
           have:=Nat.mul_le_mul_right ie.size hroom;omega
          have hst:=run_storeCells_spl (P:=P) L.cb (rs.length*ie.size) T fr news 0 cs w e3 (by rw [hn2.1,Nat.add_zero,←Nat.add_mul];exact hfit2) e5.1 hn2.2.1
          rw [Nat.add_zero] at hst
          have hss:(spl cs (rs.length*ie.size) news).size=cs.size:=spl_size (by rw [hn2.1,←Nat.add_mul];exact hfit2)
          obtain ⟨r1,r2⟩:=hH.regen e1 (g':=nextG P elem ie.size g) (by have:=nextG_lt (P:=P) (t:=elem) (sz:=ie.size) (g:=g);omega) (T:=T) (fr:=fr) (fun r hr=>by rw [e3] at hr;cases hr) (by rw [hss];exact e4) ⟨by rw [hss];exact e5.1,nextG_keep e5.2.1,by rw [hss];exact e5.2.2⟩ (e6.append hn2 hfit2)
          refine ⟨_,_,_,run_append_in (ty:=ty) h0 h1 hu0 hu1' hie (hlen w) hn1 hroom ?_,?_,r1,by simpa using r2,heap_set_low hb0⟩
          ·simp only
           rw [add_addr rfl,Nat.zero_mul,Nat.zero_add];exact hst
          ·refine .sl (by simpa using hb) hroom fun L' hL'=>?_
           simp only [addLoc,if_true,Option.some.injEq] at hL'
           subst hL'
           exact ⟨Nat.le_refl _,fun _=>⟨rfl,by simpa using hfit⟩⟩
         ·obtain ⟨newCap,cs',h2,h3,h4,h5⟩:=fresh rs _ cap hrows' hrd (by omega) hbd
          obtain ⟨r1,r2⟩:=hH.drew.move e1 (g':=nextG P elem ie.size g) (by have:=nextG_lt (P:=P) (t:=elem) (sz:=ie.size) (g:=g);omega) (T:=elem) (fr:=(0,0)) ⟨.zero _,nextG_row htag,fun _=>.zero _⟩ h4
          refine ⟨_,_,_,h3,?_,r1,by simpa using Ext.trans Ext.drew r2,heap_set_low hb0⟩
          refine .sl (by simpa using hb) h2 fun L' hL'=>?_
          simp only [addLoc,if_true,Option.some.injEq] at hL'
          subst hL'
          exact ⟨Nat.le_refl _,fun _=>⟨by simp,by simpa using h5⟩⟩
       ·cases h
      ·cases h
     ·cases h
    ·cases h
   ·cases h
  ·cases h
 ·cases h
theorem RowsAt.take {n sz:Nat} {rs:List (List AV)} {cs:Array Value} (h:RowsAt φ n w sz rs cs) (k:Nat):RowsAt φ n w sz (rs.take k) cs:=by
 refine ⟨Nat.le_trans (Nat.mul_le_mul_right _ (by simp;omega)) h.1,fun i row hi=>?_⟩
 rw [List.getElem?_take] at hi
 split at hi
 ·exact h.2 i row hi
 ·cases hi
theorem cells_zero {n:Nat} {z:AV} {Z:Value} {s:Nat} (hz:RV φ n w z Z) (hl:z.cells.all AV.leaf=true) (hs:z.cells.length=s) (k:Nat) :
 Cells φ n w s (List.replicate k z.cells) (Builtin.zeroCells Z.cells k).toList:=by
 obtain ⟨h1,h2,h3⟩:=hz.cells hl
 have hZ:Z.cells.size=s:=by rw [h1,hs]
 have hr:=rows_zero (s:=s) hz hl hs k
 refine ⟨by simp [Builtin.zeroCells,hZ],fun X hX=>?_,fun i row hi=>?_⟩
 ·simp only [Builtin.zeroCells,Array.toList_map,List.mem_map] at hX
  obtain ⟨i,hi,rfl⟩:=hX
  have hpos:0<Z.cells.size:=by
   rcases Nat.eq_zero_or_pos Z.cells.size with h0 | h0
   ·simp [h0] at hi
   ·exact h0
  have hlt:i % Z.cells.size<Z.cells.size:=Nat.mod_lt _ hpos
  rw [getElem!_pos Z.cells _ hlt]
  exact h3 _ (by simp)
 ·obtain ⟨a,b⟩:=hr.2 i row hi
  refine ⟨a,fun j v hj=>?_⟩
  obtain ⟨c,V,d,e⟩:=b j v hj
  refine ⟨c,V,?_,e⟩
  have:(Builtin.zeroCells Z.cells k)[i*s+j]?=some V:=by simpa [Builtin.zeroCells,hZ] using d
  simpa using this
theorem clearA_sound (hH:HR N φ H w) {base:Nat} {t:TypeId} {x:AV} {X:Value} (hx:RV φ H.length w x X) (h:clearA P base H t x=some H') (ty:TypeId) :
 ∃w' φ',(Builtin.clear_ #[t] ty #[X]).run P w=.ok (.tuple #[]) w'∧HR N φ' H' w'∧Ext φ H.length w φ' H'.length w'∧∀b,b<base→H'[b]?=H[b]?:=by
 unfold clearA at h
 split at h
 ·rename_i elem b g esz lo len hu
  split at h
  ·rename_i esz' g' rs sz z hblk hsz hz
   split at h
   ·rename_i hc
    obtain ⟨hb0,rfl,rfl,rfl,hzl,hle,hpos,hep⟩:=hc
    cases h
    obtain ⟨L,cs,T,fr,e1,e2,e3,e4,e5,e6⟩:=hH.rows _ _ _ _ hblk
    obtain ⟨i',Z,hi',hiz,hrun,hrz,hlz⟩:=ofZero_sound (φ:=φ) (n:=H.length) (w:=w) hz
    cases hx with
    | sl hb hcap hh =>
     rename_i cap a
     obtain ⟨ha,hfit⟩:=(hh L e1).2 e2.symm
     subst ha
     have hcz:=cells_zero (n:=H.length) (w:=w) (s:=sz) hrz hlz hzl len
     have htl:(rs.take lo).length=lo:=by rw [List.length_take];omega
     have hfit2:((rs.take lo).length+(List.replicate len z.cells).length)*sz≤cs.size:=by
      rw [htl,List.length_replicate,hle];exact e6.1
     have hra:=(e6.take lo).append hcz hfit2
     rw [htl] at hra
     have hnl:(Builtin.zeroCells Z.cells len).toList.length=len*sz:=by rw [hcz.1,List.length_replicate]
     have hfit3:lo*sz+0+(Builtin.zeroCells Z.cells len).toList.length≤cs.size:=by
      rw [hnl,Nat.add_zero,←Nat.add_mul,hle];exact e6.1
     have hst:=run_storeCells_spl (P:=P) L.cb (lo*sz) T fr (Builtin.zeroCells Z.cells len).toList 0 cs w e3 hfit3 e5.1 hcz.2.1
     rw [Nat.add_zero] at hst
     have hss:(spl cs (lo*sz) (Builtin.zeroCells Z.cells len).toList).size=cs.size:=spl_size (by rw [Nat.add_zero] at hfit3;exact hfit3)
     refine ⟨_,φ,?_,hH.put e1 (.cells (spl cs (lo*sz) (Builtin.zeroCells Z.cells len).toList) T fr) _ (fun r hr=>by rw [e3] at hr;cases hr) (by simp) ?_ (by simp) (by simp),by simpa using Ext.put hH e1 _ (fun r hr=>by rw [e3] at hr;cases hr),heap_set_low hb0⟩
     ·have hn0:len≠0:=by omega
      obtain ⟨m,rfl⟩:∃m,len=m+1:=⟨len-1,by omega⟩
      simp only [Builtin.clear_,List.getElem?_toArray,List.getElem?_cons_zero,run_under hu,Sem.run_bind,Result.andThen_ok,hrun,Sem.run_pure]
      rw [hst];rfl
     ·intro esz' g'' rs' e
      cases e
      exact ⟨_,T,fr,e2,rfl,by rw [hss];exact e4,by rw [hss];exact e5,hra⟩
   ·cases h
  ·cases h
 ·rename_i elem e hu
  cases h
  cases hx with
  | lst Vs esz hl hcap he hb hr =>
   rename_i bs len cap
   have hl0:len=0:=hl
   subst hl0
   refine ⟨w,φ,?_,hH,.refl,fun _ _=>rfl⟩
   simp only [Builtin.clear_,List.getElem?_toArray,List.getElem?_cons_zero,run_under hu,Sem.run_bind,Result.andThen_ok]
   cases bs<;>rfl
 ·cases h
end Go.Proofs.Ev
namespace Go.Proofs.Ev
open Go.RowKit
variable {P:Program} {φ:Phi} {n:Nat} {w:World}
def fieldKinds (P:Program) (flat:TypeId→Option (List LK)):Nat→List Field→Option (List LK)
 | _,[]=>some []
 | off,f::fs =>
  match flat f.type with
  | some ks =>
   if f.name≠ "_"∧f.offset=off∧szOf P f.type=some ks.length∧0<ks.length then
    match fieldKinds P flat (off+ks.length) fs with
    | some rest=>some (ks++rest)
    | none=>none
   else none
  | none=>none
def flatKinds (P:Program):Nat→TypeId→Option (List LK)
 | 0,_=>none
 | d+1,t =>
  match P.underlying t with
  | some (.int k)=>if szOf P t=some 1 then some [.int k] else none
  | some .string=>if szOf P t=some 1 then some [.str] else none
  | some .bool=>if szOf P t=some 1 then some [.bool] else none
  | some (.array len elem) =>
   match flatKinds P d elem with
   | some ks=>if szOf P elem=some ks.length∧szOf P t=some (len*ks.length) then some (List.replicate len ks).flatten else none
   | none=>none
  | some (.struct fields) =>
   if P.stoodInHeld t then none else
   match fieldKinds P (flatKinds P d) 0 fields.toList with
   | some ks=>if szOf P t=some ks.length then some ks else none
   | none=>none
  | _=>none
theorem conf_length:∀{ks:List LK} {cs:List AV},conf ks cs=true→cs.length=ks.length
 | [],[],_=>rfl
 | _::ks,_::cs,h=>by simp [conf] at h;simp [conf_length h.2]
theorem conf_append:∀{a b:List LK} {cs:List AV},conf (a++b) cs=true→conf a (cs.take a.length)=true∧conf b (cs.drop a.length)=true
 | [],b,cs,h=>by simpa [conf] using h
 | k::a,b,[],h=>by simp [conf] at h
 | k::a,b,c::cs,h=>by
  simp [conf] at h
  have:=conf_append h.2
  simp [conf,h.1,this.1,this.2]
theorem cellsEq_append:∀{a b c d:List AV},a.length=c.length→cellsEq (a++b) (c++d)=(cellsEq a c&&cellsEq b d)
 | [],b,[],d,_=>by simp [cellsEq]
 | x::a,b,y::c,d,h=>by
  simp only [List.cons_append,cellsEq]
  rw [cellsEq_append (by simpa using h),Bool.and_assoc]
def Shaped (P:Program) (t:TypeId) (v:AV):Prop :=
 (isAggT P t=some true∧∃cs,v=.agg cs)∨(isAggT P t=some false∧v.leaf=true)
theorem leaf_cells {v:AV} (h:v.leaf=true):v.cells=[v]:=by cases v<;>simp [AV.leaf] at h<;>rfl
theorem flat_agg {d:Nat} {t:TypeId} {ks:List LK} (h:flatKinds P d t=some ks):szOf P t=some ks.length∧∃b,isAggT P t=some b∧(b=false→ks.length=1):=by
 cases d with
 | zero=>cases h
 | succ d =>
  unfold flatKinds at h
  split at h
  ·rename_i hu;split at h<;>cases h;rename_i hs;exact ⟨hs,false,by simp [isAggT,hu],fun _=>rfl⟩
  ·rename_i hu;split at h<;>cases h;rename_i hs;exact ⟨hs,false,by simp [isAggT,hu],fun _=>rfl⟩
  ·rename_i hu;split at h<;>cases h;rename_i hs;exact ⟨hs,false,by simp [isAggT,hu],fun _=>rfl⟩
  ·rename_i hu
   split at h
   ·split at h<;>cases h
    rename_i hs
    exact ⟨by rw [hs.2];simp,true,by simp [isAggT,hu],by simp⟩
   ·cases h
  ·rename_i hu
   split at h
   ·cases h
   ·split at h
    ·split at h<;>cases h
     rename_i hs
     exact ⟨hs,true,by simp [isAggT,hu],by simp⟩
    ·cases h
  ·cases h
theorem takeVal_kinds {t:TypeId} {k:Nat} {cells:List AV} {b:Bool} (hs:szOf P t=some k) (hle:k≤cells.length) (hb:isAggT P t=some b) (h1:b=false→k=1) (hl:b=false→∀c∈cells,c.leaf=true) :
 ∃v,takeVal P t cells=some v∧v.cells=cells.take k∧Shaped P t v:=by
 cases b with
 | true=>exact ⟨.agg (cells.take k),by simp [takeVal,hb,hs,hle],rfl,.inl ⟨hb,_,rfl⟩⟩
 | false =>
  have:=h1 rfl
  subst this
  cases cells with
  | nil=>simp at hle
  | cons c rest =>
   have hc:=hl rfl c (by simp)
   exact ⟨c,by simp [takeVal,hb],by simp [leaf_cells hc],.inr ⟨hb,hc⟩⟩
theorem run_eqFields {d e:Nat} {CS CS':Array Value} {cells cells':List AV} (h1:RV φ n w (.agg cells) (.agg CS)) (h2:RV φ n w (.agg cells') (.agg CS'))
 (ih:∀t ks,flatKinds P d t=some ks→∀v v' V V',RV φ n w v V→RV φ n w v' V'→Shaped P t v→Shaped P t v'→conf ks v.cells=true→conf ks v'.cells=true→(Op.equalIn e t V V').run P w=.ok (cellsEq v.cells v'.cells) w) :
 ∀(fs:List Field) (off:Nat) (ks:List LK),fieldKinds P (flatKinds P d) off fs=some ks→conf ks (cells.drop off)=true→conf ks (cells'.drop off)=true→
  (Op.eqFields e CS CS' fs).run P w=.ok (cellsEq (cells.drop off) (cells'.drop off)) w
 | [],off,ks,h,c1,c2=>by
  simp only [fieldKinds,Option.some.injEq] at h
  subst h
  have l1:=conf_length c1
  have l2:=conf_length c2
  rw [List.eq_nil_of_length_eq_zero l1,List.eq_nil_of_length_eq_zero l2]
  simp [Op.eqFields,cellsEq]
 | f::fs,off,ks,h,c1,c2=>by
  simp only [fieldKinds] at h
  split at h
  ·rename_i k1 hk1
   split at h
   ·rename_i hc
    obtain ⟨hname,hoff,hsz,hpos⟩:=hc
    split at h
    ·rename_i rest hrest
     cases h
     subst hoff
     obtain ⟨a1,a2⟩:=conf_append c1
     obtain ⟨b1,b2⟩:=conf_append c2
     have l1:=conf_length c1
     have l2:=conf_length c2
     simp only [List.length_append] at l1 l2
     obtain ⟨_,b,hb,hb1⟩:=flat_agg hk1
     have hleaf:∀{cl:List AV} {C:Array Value},RV φ n w (.agg cl) (.agg C)→∀c∈cl.drop f.offset,c.leaf=true:=by
      intro cl C hr c hc
      cases hr with
      | agg _ hf _=>obtain ⟨j,hj⟩:=List.getElem?_of_mem (List.mem_of_mem_drop hc);exact hf j c hj
     obtain ⟨v,v1,v2,v3⟩:=takeVal_kinds (P:=P) (t:=f.type) (cells:=cells.drop f.offset) hsz (by omega) hb hb1 (fun _=>hleaf h1)
     obtain ⟨u,u1,u2,u3⟩:=takeVal_kinds (P:=P) (t:=f.type) (cells:=cells'.drop f.offset) hsz (by omega) hb hb1 (fun _=>hleaf h2)
     have o1:f.offset≤cells.length:=by rw [List.length_drop] at l1;omega
     have o2:f.offset≤cells'.length:=by rw [List.length_drop] at l2;omega
     obtain ⟨V,p1,p2⟩:=partA_sound (P:=P) (t:=f.type) (off:=f.offset) h1 (by unfold partA;rw [if_pos o1];exact v1)
     obtain ⟨U,q1,q2⟩:=partA_sound (P:=P) (t:=f.type) (off:=f.offset) h2 (by unfold partA;rw [if_pos o2];exact u1)
     have heq:=ih _ _ hk1 v u V U p2 q2 v3 u3 (by rw [v2];exact a1) (by rw [u2];exact b1)
     have hrec:=run_eqFields h1 h2 ih fs (f.offset+k1.length) rest hrest (by rw [←List.drop_drop];exact a2) (by rw [←List.drop_drop];exact b2)
     have hsplit:cellsEq (cells.drop f.offset) (cells'.drop f.offset)=(cellsEq v.cells u.cells&&cellsEq (cells.drop (f.offset+k1.length)) (cells'.drop (f.offset+k1.length))):=by
      have:=cellsEq_append (a:=(cells.drop f.offset).take k1.length) (b:=(cells.drop f.offset).drop k1.length) (c:=(cells'.drop f.offset).take k1.length) (d:=(cells'.drop f.offset).drop k1.length) (by rw [List.length_take,List.length_take];omega)
      rw [v2,u2,←List.drop_drop,←List.drop_drop,←this,List.take_append_drop,List.take_append_drop]
     rw [hsplit]
     simp only [Op.eqFields,ne_eq,hname,not_false_eq_true,if_true,Sem.run_bind,p1,q1,heq,Result.andThen_ok]
     cases cellsEq v.cells u.cells with
     | false=>simp
     | true=>simpa using hrec
    ·cases h
   ·cases h
  ·cases h
theorem conf_one {k:LK} {v:AV} (hl:v.leaf=true) (h:conf [k] v.cells=true):cellKind v=some k:=by
 rw [leaf_cells hl] at h
 simpa [conf] using h
theorem run_eqArr {d e len s:Nat} {elem:TypeId} {CS CS':Array Value} {cells cells':List AV} {k1:List LK} (h1:RV φ n w (.agg cells) (.agg CS)) (h2:RV φ n w (.agg cells') (.agg CS')) (hk1:flatKinds P d elem=some k1) (hs:k1.length=s)
 (ih:∀t ks,flatKinds P d t=some ks→∀v v' V V',RV φ n w v V→RV φ n w v' V'→Shaped P t v→Shaped P t v'→conf ks v.cells=true→conf ks v'.cells=true→(Op.equalIn e t V V').run P w=.ok (cellsEq v.cells v'.cells) w) :
 ∀(m i:Nat),i+m=len→conf (List.replicate m k1).flatten (cells.drop (i*s))=true→conf (List.replicate m k1).flatten (cells'.drop (i*s))=true→i*s≤cells.length→i*s≤cells'.length→
  ((do
    let r ←forIn (List.range' i m) ((none,()):Option Bool×Unit) fun i _=>do
     let a ←part elem CS (i*s)
     let b ←part elem CS' (i*s)
     let r ←Op.equalIn e elem a b
     if (!r)=true then pure (.done (some false,())) else pure (.yield (none,()))
    match r.fst with
    | some b=>pure b
    | none=>pure true):Sem Bool).run P w=.ok (cellsEq (cells.drop (i*s)) (cells'.drop (i*s))) w
 | 0,i,_,c1,c2,_,_=>by
  have l1:=conf_length c1
  have l2:=conf_length c2
  simp only [List.replicate_zero,List.flatten_nil,List.length_nil] at l1 l2
  rw [List.eq_nil_of_length_eq_zero l1,List.eq_nil_of_length_eq_zero l2]
  simp [cellsEq]
 | m+1,i,him,c1,c2,o1,o2=>by
  rw [List.replicate_succ,List.flatten_cons] at c1 c2
  obtain ⟨a1,a2⟩:=conf_append c1
  obtain ⟨b1,b2⟩:=conf_append c2
  have l1:=conf_length c1
  have l2:=conf_length c2
  simp only [List.length_append,List.length_drop] at l1 l2
  obtain ⟨hsz,b,hb,hb1⟩:=flat_agg hk1
  have hleaf:∀{cl:List AV} {C:Array Value},RV φ n w (.agg cl) (.agg C)→∀c∈cl.drop (i*s),c.leaf=true:=by
   intro cl C hr c hc
   cases hr with
   | agg _ hf _=>obtain ⟨j,hj⟩:=List.getElem?_of_mem (List.mem_of_mem_drop hc);exact hf j c hj
  obtain ⟨v,v1,v2,v3⟩:=takeVal_kinds (P:=P) (t:=elem) (cells:=cells.drop (i*s)) hsz (by simp;omega) hb hb1 (fun _=>hleaf h1)
  obtain ⟨u,u1,u2,u3⟩:=takeVal_kinds (P:=P) (t:=elem) (cells:=cells'.drop (i*s)) hsz (by simp;omega) hb hb1 (fun _=>hleaf h2)
  obtain ⟨V,p1,p2⟩:=partA_sound (P:=P) (t:=elem) (off:=i*s) h1 (by unfold partA;rw [if_pos o1];exact v1)
  obtain ⟨U,q1,q2⟩:=partA_sound (P:=P) (t:=elem) (off:=i*s) h2 (by unfold partA;rw [if_pos o2];exact u1)
  have heq:=ih _ _ hk1 v u V U p2 q2 v3 u3 (by rw [v2];exact a1) (by rw [u2];exact b1)
  have e1:(i+1)*s=i*s+k1.length:=by rw [Nat.add_mul,Nat.one_mul,hs]
  have hrec:=run_eqArr (len:=len) h1 h2 hk1 hs ih m (i+1) (by omega) (by rw [e1,←List.drop_drop];exact a2) (by rw [e1,←List.drop_drop];exact b2) (by omega) (by omega)
  have hsplit:cellsEq (cells.drop (i*s)) (cells'.drop (i*s))=(cellsEq v.cells u.cells&&cellsEq (cells.drop ((i+1)*s)) (cells'.drop ((i+1)*s))):=by
   have:=cellsEq_append (a:=(cells.drop (i*s)).take k1.length) (b:=(cells.drop (i*s)).drop k1.length) (c:=(cells'.drop (i*s)).take k1.length) (d:=(cells'.drop (i*s)).drop k1.length) (by rw [List.length_take,List.length_take,List.length_drop,List.length_drop];omega)
   rw [v2,u2,e1,←List.drop_drop,←List.drop_drop,←this,List.take_append_drop,List.take_append_drop]
  rw [hsplit]
  rw [List.range'_succ,List.forIn_cons]
  simp only [Sem.run_bind,p1,q1,heq,Result.andThen_ok]
  cases cellsEq v.cells u.cells with
  | false=>simp
  | true =>
   simp only [Bool.not_true,Bool.false_eq_true,if_false,Sem.run_pure,Result.andThen_ok,Bool.true_and]
   simpa only [Sem.run_bind] using hrec
theorem run_equalK:∀(d:Nat) (t:TypeId) (ks:List LK),flatKinds P d t=some ks→∀v v' V V',RV φ n w v V→RV φ n w v' V'→Shaped P t v→Shaped P t v'→conf ks v.cells=true→conf ks v'.cells=true→
 ∀e,d≤e→(Op.equalIn e t V V').run P w=.ok (cellsEq v.cells v'.cells) w:=by
 intro d
 induction d with
 | zero=>intro t ks h;cases h
 | succ d ih =>
  intro t ks h v v' V V' hv hv' sv sv' cv cv' e he
  obtain ⟨e,rfl⟩:∃e',e=e'+1:=⟨e-1,by omega⟩
  have ih':=fun t ks hk v v' V V' a b c d' x y=>ih t ks hk v v' V V' a b c d' x y e (by omega)
  unfold flatKinds at h
  split at h
  ·rename_i k hu
   split at h<;>cases h
   have l1:v.leaf=true:=by rcases sv with ⟨h1,_⟩ | ⟨_,h2⟩;simp [isAggT,hu] at h1;exact h2
   have l2:v'.leaf=true:=by rcases sv' with ⟨h1,_⟩ | ⟨_,h2⟩;simp [isAggT,hu] at h1;exact h2
   have k1:=conf_one l1 cv
   have k2:=conf_one l2 cv'
   cases v<;>simp [cellKind] at k1
   cases v'<;>simp [cellKind] at k2
   subst k1;subst k2
   cases hv;cases hv'
   rw [run_equalIn_int w e t _ _ _ _ hu]
   simp [AV.cells,cellsEq,cellEq]
  ·rename_i hu
   split at h<;>cases h
   have l1:v.leaf=true:=by rcases sv with ⟨h1,_⟩ | ⟨_,h2⟩;simp [isAggT,hu] at h1;exact h2
   have l2:v'.leaf=true:=by rcases sv' with ⟨h1,_⟩ | ⟨_,h2⟩;simp [isAggT,hu] at h1;exact h2
   have k1:=conf_one l1 cv
   have k2:=conf_one l2 cv'
   cases v<;>simp [cellKind] at k1
   cases v'<;>simp [cellKind] at k2
   cases hv;cases hv'
   rw [run_equalIn_string w e t _ _ hu]
   simp [AV.cells,cellsEq,cellEq,ByteArray.toList_eq]
  ·rename_i hu
   split at h<;>cases h
   have l1:v.leaf=true:=by rcases sv with ⟨h1,_⟩ | ⟨_,h2⟩;simp [isAggT,hu] at h1;exact h2
   have l2:v'.leaf=true:=by rcases sv' with ⟨h1,_⟩ | ⟨_,h2⟩;simp [isAggT,hu] at h1;exact h2
   have k1:=conf_one l1 cv
   have k2:=conf_one l2 cv'
   cases v<;>simp [cellKind] at k1
   cases v'<;>simp [cellKind] at k2
   cases hv;cases hv'
   rw [run_equalIn_bool' w e t _ _ hu]
   simp [AV.cells,cellsEq,cellEq]
  ·rename_i len elem hu
   split at h
   ·rename_i k1 hk1
    split at h<;>cases h
    rename_i hsz
    have e1:∃cs,v=.agg cs:=by rcases sv with ⟨_,h2⟩ | ⟨h1,_⟩;exact h2;simp [isAggT,hu] at h1
    have e2:∃cs,v'=.agg cs:=by rcases sv' with ⟨_,h2⟩ | ⟨h1,_⟩;exact h2;simp [isAggT,hu] at h1
    obtain ⟨cells,rfl⟩:=e1
    obtain ⟨cells',rfl⟩:=e2
    have hv2:=hv
    have hv2':=hv'
    cases hv with
    | agg _ _ _ =>
    rename_i CS _ _ _
    cases hv' with
    | agg _ _ _ =>
    rename_i CS' _ _ _
    have:=run_eqArr (P:=P) (len:=len) hv2 hv2' hk1 rfl ih' len 0 (by omega) (by simpa [AV.cells] using cv) (by simpa [AV.cells] using cv') (by omega) (by omega)
    simp only [Nat.zero_mul,List.drop_zero] at this
    simp only [Op.equalIn,Sem.run_bind,run_under hu,Result.andThen_ok,run_sizeOf hsz.1,AV.cells]
    rw [←this]
    simp only [Std.Legacy.Range.forIn_eq_forIn_range',Std.Legacy.Range.size,Nat.sub_zero,Nat.add_one_sub_one,Nat.div_one,Sem.run_bind]
    refine congr (congrArg Result.andThen ?_) ?_
    ·rfl
    ·funext a w'
     obtain ⟨_ | _,_⟩:=a<;>rfl
   ·cases h
  ·rename_i fields hu
   split at h
   ·cases h
   ·rename_i hst
    split at h
    ·rename_i ks' hks
     split at h<;>cases h
     have e1:∃cs,v=.agg cs:=by rcases sv with ⟨_,h2⟩ | ⟨h1,_⟩;exact h2;simp [isAggT,hu] at h1
     have e2:∃cs,v'=.agg cs:=by rcases sv' with ⟨_,h2⟩ | ⟨h1,_⟩;exact h2;simp [isAggT,hu] at h1
     obtain ⟨cells,rfl⟩:=e1
     obtain ⟨cells',rfl⟩:=e2
     have hv2:=hv
     have hv2':=hv'
     cases hv with
     | agg _ _ _ =>
     cases hv' with
     | agg _ _ _ =>
     have hfo:P.fieldsOf t=fields:=by simp [Program.fieldsOf,hu]
     rw [run_equalIn_struct w e t _ _ (by rw [hfo];exact hu) (by simpa using hst),hfo]
     have:=run_eqFields hv2 hv2' ih' fields.toList 0 ks hks (by simpa [AV.cells] using cv) (by simpa [AV.cells] using cv')
     simpa [AV.cells] using this
    ·cases h
  ·cases h
end Go.Proofs.Ev
namespace Go.Proofs.Ev
open Go.RowKit
variable {P:Program} {C:Cfg} {N:Low} {φ φ':Phi} {H H':Heap} {w w':World} {n:Nat}
structure Cfg.Fits (C:Cfg) (P:Program):Prop where
 kinds:∀t ks,C.kinds t=some ks→flatKinds P 20 t=some ks∧P.eqGuardType P.depth t=false∧isAggT P t=some true
theorem eqA_sound (hC:C.Fits P) {t:TypeId} {x y:AV} {X Y:Value} {b:Bool} (hx:RV φ n w x X) (hy:RV φ n w y Y) (h:eqA P C t x y=some b):(Op.equal t X Y).run P w=.ok b w:=by
 unfold eqA at h
 split at h
 ·rename_i xs ys
  split at h
  ·rename_i ks hk
   split at h
   ·rename_i hc
    rw [Bool.and_eq_true] at hc
    cases h
    obtain ⟨h1,_,h2⟩:=hC.kinds _ _ hk
    exact run_equalK 20 t ks h1 _ _ _ _ hx hy (.inl ⟨h2,_,rfl⟩) (.inl ⟨h2,_,rfl⟩) hc.1 hc.2 10000 (by omega)
   ·cases h
  ·cases h
 ·split at h
  ·rename_i hu;cases h;cases hx;cases hy;exact run_equalIn_bool' w 9999 t _ _ hu
  ·cases h
 case h_12=>cases h
 case h_8 | h_9 | h_10 | h_11 =>
  split at h
  ·rename_i hu
   have key:∀(d:Nat) (a:Addr) (l c:Nat),(Op.equalIn (d+1) t (.slice (some a) l c) (.slice none 0 0)).run P w=.ok false w∧(Op.equalIn (d+1) t (.slice none 0 0) (.slice none 0 0)).run P w=.ok true w:=by
    intro d a l c
    constructor<;>simp [Op.equalIn,run_under hu]
   cases h
   cases hy
   cases hx
   first
    | exact (key 9999 ⟨0,0,none⟩ 0 0).2
    | exact (key 9999 _ _ _).1
    | (rename_i hb _ _;obtain ⟨cb,off,rfl,_⟩:=hb (by simp);exact (key 9999 _ _ _).1)
    | (rename_i hb _;obtain ⟨cb,off,rfl,_⟩:=hb (by simp);exact (key 9999 _ _ _).1)
  ·cases h
 all_goals
  split at h
  ·rename_i hu
   cases h;cases hx;cases hy
   have:∀(d:Nat) (p q:Option Addr),(Op.equalIn (d+1) t (.pointer none) (.pointer q)).run P w=.ok q.isNone w∧(Op.equalIn (d+1) t (.pointer (some (p.getD default))) (.pointer none)).run P w=.ok false w:=by
    intro d p q
    constructor<;>simp [Op.equalIn,run_under hu]
   first | exact (this 9999 none _).1 | exact (this 9999 (some _) none).2
  ·cases h
theorem eqGuard_sound (hC:C.Fits P) {op:BinOp} {t:TypeId} {x y:AV} {X Y:Value} {b:Bool} (hx:RV φ n w x X) (hy:RV φ n w y Y) (h:eqA P C t x y=some b) (o1 o2:Operand):(eqGuard op t o1 o2 X Y).run P w=.ok () w:=by
 unfold eqA at h
 split at h
 ·split at h
  ·rename_i ks hk
   cases hx;cases hy
   exact run_eqGuard_agg w op t o1 o2 _ _ (hC.kinds _ _ hk).2.1
  ·cases h
 all_goals first | (cases h;done) | (cases hx;cases hy;unfold eqGuard;split<;>rfl)
theorem toList_mk (l:List UInt8):(⟨⟨l⟩⟩:ByteArray).toList=l:=by rw [ByteArray.toList_eq]
theorem binA_sound (hC:C.Fits P) {op:BinOp} {t:TypeId} {x y v:AV} {X Y:Value} (hx:RV φ n w x X) (hy:RV φ n w y Y) (h:binA P C op t x y=some v) (o1 o2:Operand) :
 ∃V,(do eqGuard op t o1 o2 X Y;binOp op t X Y:Sem Value).run P w=.ok V w∧RV φ n w v V:=by
 unfold binA at h
 split at h
 ·rename_i k a k' b
  cases hx;cases hy
  have hg:(eqGuard op t o1 o2 (.int k a) (.int k' b)).run P w=.ok () w:=by unfold eqGuard;split<;>rfl
  simp only [Sem.run_bind,hg,Result.andThen_ok]
  split at h
  ·split at h<;>cases h
   rename_i hb
   exact ⟨_,by simp [binOp,Op.shift,Int.not_lt.2 hb];try rfl,.int _ _⟩
  ·split at h<;>cases h
   rename_i hb
   exact ⟨_,by simp [binOp,Op.shift,Int.not_lt.2 hb];try rfl,.int _ _⟩
  ·split at h
   ·rename_i hk
    subst hk
    split at h
    case h_16=>cases h
    case h_4=>split at h<;>cases h;rename_i hb;exact ⟨_,by simp [binOp,Op.intDiv,hb];try rfl,.int _ _⟩
    case h_5=>split at h<;>cases h;rename_i hb;exact ⟨_,by simp [binOp,Op.intDiv,hb];try rfl,.int _ _⟩
    all_goals (cases h;(first | refine ⟨_,?_,RV.int _ _⟩ | refine ⟨_,?_,RV.bool _⟩);(simp only [binOp,ne_eq,not_true_eq_false,if_false];rfl))
   ·cases h
 ·rename_i a b
  cases hx;cases hy
  have hg:(eqGuard op t o1 o2 (.string ⟨⟨a⟩⟩) (.string ⟨⟨b⟩⟩)).run P w=.ok () w:=by unfold eqGuard;split<;>rfl
  simp only [Sem.run_bind,hg,Result.andThen_ok]
  split at h
  case h_1 =>
   split at h<;>cases h
   rename_i hb
   have hs:(⟨⟨a⟩⟩:ByteArray).size=a.length:=rfl
   have hs':(⟨⟨b⟩⟩:ByteArray).size=b.length:=rfl
   have hmax:IntKind.i64.max=9223372036854775807:=by decide
   refine ⟨.string ⟨⟨a++b⟩⟩,?_,.str _⟩
   have hno:¬(((a.length+b.length:Nat):Int) > 9223372036854775807):=by omega
   simp only [binOp,Op.stringOp,hs,hs',hmax,hno,if_false,Sem.run_pure]
   congr 2
  case h_8=>cases h
  all_goals (cases h;exact ⟨_,by simp only [binOp,Op.stringOp,toList_mk,Sem.run_pure];try rfl,.bool _⟩)
 ·rename_i hni hns
  split at h
  ·cases he:eqA P C t x y with
   | none=>rw [he] at h;cases h
   | some b =>
    rw [he] at h;cases h
    have h1:=eqGuard_sound (op:=.eql) hC hx hy he o1 o2
    have h2:=eqA_sound hC hx hy he
    refine ⟨.bool b,?_,.bool _⟩
    simp only [Sem.run_bind,h1,Result.andThen_ok]
    unfold eqA at he
    split at he<;>first
     | (cases hx;cases hy;simp only [binOp,Sem.run_bind,h2,Result.andThen_ok,Sem.run_pure];done)
     | cases he
  ·cases he:eqA P C t x y with
   | none=>rw [he] at h;cases h
   | some b =>
    rw [he] at h;cases h
    have h1:=eqGuard_sound (op:=.neq) hC hx hy he o1 o2
    have h2:=eqA_sound hC hx hy he
    refine ⟨.bool !b,?_,.bool _⟩
    simp only [Sem.run_bind,h1,Result.andThen_ok]
    unfold eqA at he
    split at he<;>first
     | (cases hx;cases hy;simp only [binOp,Sem.run_bind,h2,Result.andThen_ok,Sem.run_pure];done)
     | cases he
  ·cases h
theorem unA_sound {op:UnOp} {x v:AV} {X:Value} (hx:RV φ n w x X) (h:unA op x=some v):∃V,(Op.unary op X).run P w=.ok V w∧RV φ n w v V:=by
 unfold unA at h
 split at h
 ·cases h;cases hx;exact ⟨_,by simp [Op.unary,Op.intArith];try rfl,.int _ _⟩
 ·cases h;cases hx;exact ⟨_,by simp [Op.unary,Op.intBits];try rfl,.int _ _⟩
 ·cases h;cases hx;exact ⟨_,by simp [Op.unary];try rfl,.bool _⟩
 ·cases h
theorem bytesA_some:∀{rows:List (List AV)} {l:List UInt8},bytesA rows=some l→∃ns:List Int,rows=ns.map (fun m=>[AV.int .u8 m])∧l=ns.map (fun m=>UInt8.ofNat m.toNat)
 | [],l,h=>by simp [bytesA] at h;subst h;exact ⟨[],rfl,rfl⟩
 | r::rows,l,h=>by
  unfold bytesA at h
  split at h
  ·rename_i heq;cases heq
  ·rename_i m rest heq
   cases heq
   cases hr:bytesA rows with
   | none=>rw [hr] at h;cases h
   | some l' =>
    rw [hr] at h;cases h
    obtain ⟨ns,h1,h2⟩:=bytesA_some hr
    exact ⟨m::ns,by simp [h1],by simp [h2]⟩
  ·cases h
theorem freeze_alloc {cs:Array Value} {T:TypeId} (k:Nat):(w.alloc (.cells cs T (0,0))).freeze ⟨w.heap.size,k,none⟩ 1=w.alloc (.cells cs T (k,k+1)):=by
 unfold World.freeze
 rw [if_neg (by decide)]
 have key:((w.alloc (.cells cs T (0,0))).heap.modify w.heap.size fun | .cells c elem (lo,hi)=>.cells c elem (if lo==hi then (k,k+1) else (min lo k,max hi (k+1))) | o=>o)=(w.alloc (.cells cs T (k,k+1))).heap:=by
  apply Array.ext_getElem?
  intro i
  rw [Array.getElem?_modify]
  by_cases h:w.heap.size=i
  ·subst h
   rw [if_pos rfl,heap_alloc_new,heap_alloc_new];rfl
  ·rw [if_neg h]
   rcases Nat.lt_or_ge i w.heap.size with h1 | h1
   ·rw [heap_alloc_old h1,heap_alloc_old h1]
   ·rw [Array.getElem?_eq_none (by simp;omega),Array.getElem?_eq_none (by simp;omega)]
 exact congrArg (fun h=>({ w with heap:=h }:World)) key
theorem convertA_sound (hH:HR N φ H w) {base:Nat} (hbase:base≤H.length) {src dst:TypeId} {x v:AV} {X:Value} (hx:RV φ H.length w x X) (h:convertA P H src dst x=some (v,H')) :
 ∃V w' φ',(convert src dst X).run P w=.ok V w'∧RV φ' H'.length w' v V∧HR N φ' H' w'∧Ext φ H.length w φ' H'.length w'∧∀b,b<base→H'[b]?=H[b]?:=by
 unfold convertA at h
 split at h
 ·rename_i ds k m hs hd
  cases h;cases hx
  exact ⟨_,w,φ,by simp [convert,run_under hs,run_under hd,Conv.intToInt];try rfl,.int _ _,hH,.refl,fun _ _=>rfl⟩
 ·rename_i s hs hd
  cases h;cases hx
  exact ⟨_,w,φ,by simp [convert,run_under hs,run_under hd];try rfl,.str _,hH,.refl,fun _ _=>rfl⟩
 ·rename_i e s hs hd
  split at h
  ·rename_i he
   split at h<;>cases h
   rename_i hl
   cases hx
   have hsz:(⟨⟨s⟩⟩:ByteArray).size=s.length:=rfl
   obtain ⟨cap,hcap,hc⟩:∃cap,s.length≤cap∧(choose (.appendCap s.length 0 e)).run P w=.ok cap w.drew:=by
    refine ⟨s.length+w.tape w.drawn (.appendCap s.length 0 e) % (2^63-s.length),by omega,?_⟩
    simp [Question.forced,Question.cut]
   obtain ⟨cs,hcs⟩:∃cs:Array Value,cs=((⟨⟨s⟩⟩:ByteArray).data.map fun b=>Value.int .u8 b.toNat)++Array.replicate (cap-s.length) (.int .u8 0):=⟨_,rfl⟩
   have hcsz:cs.size=cap:=by rw [hcs];simp;omega
   have hrun:(convert src dst (.string ⟨⟨s⟩⟩)).run P w=.ok (.slice (some ⟨w.heap.size,0,none⟩) s.length cap) (w.drew.alloc (.cells cs e (cap,cap+1))):=by
    have hsh:(w.drew.alloc (.cells cs e (0,0))).shape? w.heap.size=some (e,cap):=by
     unfold World.shape?
     have:(w.drew.alloc (.cells cs e (0,0))).heap[w.heap.size]?=some (.cells cs e (0,0)):=heap_alloc_new (w:=w.drew)
     rw [this];simp [hcsz]
    have hfr:=freeze_alloc (w:=w.drew) (cs:=cs) (T:=e) cap
    simp only [convert,Sem.run_bind,run_under hs,run_under hd,run_under he,Result.andThen_ok,Conv.stringToBytes,hsz,hc,newRow,run_newObj,Sem.run_pure,markStringish,run_shape,←hcs]
    rw [show ({ w.drew with heap:=w.drew.heap.push (.cells cs e (0,0)) }:World)=w.drew.alloc (.cells cs e (0,0)) from rfl]
    rw [show w.drew.heap.size=w.heap.size from rfl,hsh]
    simp only [run_freeze,Result.andThen_ok]
    rw [show w.heap.size=w.drew.heap.size from rfl,hfr]
   have hrows:RowsAt φ H.length w.drew 1 (s.map fun b=>[AV.int .u8 b.toNat]) cs:=by
    refine ⟨by simp [hcsz,hcap],fun i row hi=>?_⟩
    rw [List.getElem?_map] at hi
    cases hb:s[i]? with
    | none=>rw [hb] at hi;cases hi
    | some b =>
     rw [hb] at hi;cases hi
     have hil:=lt_of_get hb
     refine ⟨rfl,fun j u hj=>?_⟩
     cases j with
     | succ j=>simp at hj
     | zero =>
      simp at hj;subst hj
      refine ⟨rfl,.int .u8 b.toNat,?_,.int _ _⟩
      rw [hcs,Array.getElem?_append_left (by simp;exact hil)]
      simp [hb]
   have hal:=hH.drew.alloc (.cells cs e (cap,cap+1)) 0 cs.size (.rows 1 0 (s.map fun b=>[AV.int .u8 b.toNat])) (by simp)
    (by intro a b c e';cases e';exact ⟨cs,e,(cap,cap+1),rfl,rfl,rfl,.even rfl (fun off ho hh=>by simp at hh;omega),hrows⟩) (by simp) (by simp)
   refine ⟨_,_,_,hrun,?_,hal,by simpa using Ext.trans Ext.drew (Ext.alloc (.cells cs e (cap,cap+1)) 0 cs.size),fun b hb=>List.getElem?_append_left (by omega)⟩
   refine .sl (by simp) hcap fun L hL=>?_
   simp only [addLoc,if_true,Option.some.injEq] at hL
   subst hL
   exact ⟨Nat.le_refl _,fun _=>⟨by simp,by simp [hcsz]⟩⟩
  ·cases h
 ·rename_i x _ _ _ e hs hd
  split at h
  ·rename_i he
   cases hr:rowsOf H x with
   | none=>rw [hr] at h;cases h
   | some rows =>
    rw [hr] at h
    simp only [Option.bind_some] at h
    cases hb:bytesA rows with
    | none=>rw [hb] at h;cases h
    | some l =>
     rw [hb] at h;cases h
     obtain ⟨ns,h1,h2⟩:=bytesA_some hb
     obtain ⟨b0,cap,rfl,hcap,hrd⟩:=rowsOf_sound hH hx hr
     refine ⟨.string ⟨⟨l⟩⟩,w,φ,?_,.str _,hH,.refl,fun _ _=>rfl⟩
     have hlen:rows.length=ns.length:=by rw [h1];simp
     cases b0 with
     | none =>
      have hne:rows=[]:=by
       rcases Classical.em (rows=[]) with h | h
       ·exact h
       ·obtain ⟨a,_,h3,_⟩:=hrd h;cases h3
      rw [run_convert_bytes_nil w src e hs he _ _ dst hd]
      have:ns=[]:=by rw [hne] at hlen;simpa using hlen.symm
      rw [h2,this];rfl
     | some a =>
      obtain ⟨bl,off,spot⟩:=a
      have hcell:∀i,i<rows.length→w.cell? ⟨bl,off+i,none⟩=some (.int .u8 (ns.getD i 0)):=by
       intro i hi
       have hne:rows≠[]:=by intro e0;rw [e0] at hi;simp at hi
       obtain ⟨a,esz,h3,h4,h5⟩:=hrd hne
       cases h3
       have hget:rows[i]?=some [AV.int .u8 (ns.getD i 0)]:=by
        rw [h1,List.getElem?_map]
        have:i<ns.length:=by omega
        simp [List.getD,List.getElem?_eq_getElem this]
       obtain ⟨h6,h7⟩:=h5 i _ hget
       simp at h6
       subst h6
       obtain ⟨_,U,h8,h9⟩:=h7 0 _ rfl
       cases h9
       simpa using h8
      have hspot:rows≠[]→spot=none:=fun hne=>by obtain ⟨a,esz,h3,h4,_⟩:=hrd hne;cases h3;exact h4
      by_cases hne:rows=[]
      ·have hn0:ns=[]:=by rw [hne] at hlen;simpa using hlen.symm
       rw [hne,h2,hn0]
       rw [run_convert_bytes_string w src dst e _ _ _ hs he hd]
       simp [Conv.bytesToString,loadCells,loadCellsFrom]
       rfl
      ·have:=hspot hne
       subst this
       rw [run_convert_bytes_arg w src e hs he bl off rows.length cap ns hlen.symm hcell dst hd,h2]
       rfl
  ·cases h
 ·cases h
end Go.Proofs.Ev
