/- Part 19 of the proof that quiltlaw38.BlameHistory returns true: no statement of its own. -/
import Derived.Test.YtkicailcmamaiaaGreatDoorH18
import Derived.Test.YtkicailcmamaiaaGreatDoorH12
import Derived.Test.YtkicailcmamaiaaGreatDoorH15
import Derived.Lib.Builder
import Derived.Lib.UnsafeStr
import Derived.Shelf.SlSortCmp.WholeK
import Derived.Test.YtkicailcmamaiaaGreatDoorH8
import Derived.Shelf.RegionOpen
import Derived.Sort.Grow
import Derived.Test.YtkicailcmamaiaaGreatDoorH13
set_option linter.all false
namespace Go.Proofs.Ev
open Go.Proofs
variable {P:Program} {C:bD}
theorem dY {f:FuncId} {p:Nat→List AV→ae→Option (AV×ae)} (hp:C.prim f=some p) (h1:C.pure f=false) (h2:C.frz f=false) {base:Nat} {caps args:List AV} {H:ae} {v:AV} {H':ae} (h:p base (args++caps) H=some (v,H')) (K:AV→ae→Prop):aF P C base (.fn f caps) args H K=K v H':=by
 refine aF.eq ⟨2,v,H',?_,rfl,rfl⟩ K
 simp only [dA,h1,h2,cx,hp,h,Bool.false_eq_true,if_false]
theorem AU (hp:C.prim 140=some pt) (h1:C.pure 140=false) (h2:C.frz 140=false) {base:Nat} {H:ae} {k:SK} {l:List ar} (hl:l.length≤2^20) (K:AV→ae→Prop) :
 aF P C base (.fn 140 []) [am k (l.map ar.cells)] H K=if l=[] then K (.lst [] true) H else K (.sl H.length 0 32 0 l.length) (H++[.rows 32 0 (l.map ar.cells)]):=by
 have e:=FY base H k l hl
 by_cases h0:l=[]
 ·rw [if_pos h0] at e ⊢
  exact dY hp h1 h2 e K
 ·rw [if_neg h0] at e ⊢
  exact dY hp h1 h2 e K
theorem F2 (hp:C.prim 137=some zE) (h1:C.pure 137=false) (h2:C.frz 137=false) {base:Nat} {H:ae} {a b:AV} {x y:List Nat} (hl:x.length=y.length) (hx:∀n∈x,n<256) (hy:∀n∈y,n<256)
 (ha:cg H a.denil=some ((dig x).map fun c=>[c])) (hb:cg H b.denil=some ((dig y).map fun c=>[c])) (K:AV→ae→Prop):aF P C base (.fn 137 []) [a,b] H K=K (.int .i64 (bQ x y)) H:=by
 have key:∀{x:List Nat},(∀n∈x,n<256)→((dig x).map fun c=>[c]).mapM rJ=some x:=by
  intro x
  induction x with
  | nil=>intro _;rfl
  | cons n x ih =>
   intro h
   have i:=ih fun m hm=>h m (by simp [hm])
   have hn:=h n (by simp)
   have hb:rJ [AV.int .u8 (n:Int)]=some n:=by
    show (if (0:Int)≤(n:Int)∧(n:Int)<256 then some (n:Int).toNat else none)=some n
    rw [if_pos ⟨by omega,by omega⟩];simp
   show List.mapM rJ ([AV.int .u8 (n:Int)]::(dig x).map fun c=>[c])=_
   rw [List.mapM_cons,hb,i];rfl
 have e:zE base [a,b] H=some (.int .i64 (bQ x y),H):=by
  simp only [zE,tl,ha,hb,Option.bind_some,key hx,key hy,hl,if_true]
 exact dY hp h1 h2 e K
theorem DZ (hp:C.prim 156=some uu) (h1:C.pure 156=false) (h2:C.frz 156=false) (n:Int) (l1 : -(2^62)≤n) (l2:n≤2^62) (base:Nat) (H:ae) (K:AV→ae→Prop):aF P C base (.fn 156 []) [.int .i64 n] H K=K (.str (nd n)) H:=by
 have e:uu base [.int .i64 n] H=some (.str (nd n),H):=by
  show (if -9223372036854775808≤n∧n≤9223372036854775807 then some (AV.str (nd n),H) else none)=_
  rw [if_pos ⟨by omega,by omega⟩]
 exact dY hp h1 h2 e K
theorem CK:∀(s:List UInt8) (c:UInt8),Lib.indexByte s c<0↔¬c∈s
 | [],c=>by simp [Lib.indexByte]
 | b::s,c=>by
  have ih:=CK s c
  have hg:=Lib.indexByte_ge s c
  unfold Lib.indexByte
  by_cases hb:b=c
  ·subst hb;simp
  ·have hb2:(b==c)=false:=by simpa using hb
   have hm:c∈b::s↔c∈s:=by simp [Ne.symm hb]
   rw [hb2,hm,←ih]
   simp only [Bool.false_eq_true,if_false]
   by_cases h1:Lib.indexByte s c = -1
   ·rw [h1];simp
   ·have h2:(Lib.indexByte s c==-1)=false:=by simpa using h1
    rw [h2]
    simp only [Bool.false_eq_true,if_false]
    omega
theorem Gx (hp:C.prim 335=some Ew) (h1:C.pure 335=false) (h2:C.frz 335=false) (s:List UInt8) (c:UInt8):∃n:Int,(n<0↔¬c∈s)∧∀base H (K:AV→ae→Prop),aF P C base (.fn 335 []) [.str s,.int .u8 c.toNat] H K=K (.int .i64 n) H:=by
 refine ⟨Lib.indexByte s c,?_,fun base H K=>?_⟩
 ·exact CK s c
 ·have e:Ew base [.str s,.int .u8 c.toNat] H=some (.int .i64 (Lib.indexByte s c),H):=by
   show some (AV.int .i64 (Lib.indexByte s ((c.toNat:Int)).toNat.toUInt8),H)=_
   simp
  exact dY hp h1 h2 e K
end Go.Proofs.Ev
namespace Go.Proofs.Ev
open Go.Proofs
variable {N:gH} {φ:fJ} {H:ae} {w w':World}
theorem BC {P:Program} {e:TypeId} {s:Nat} (hc:P.cellsOf e=s) (hs:s≠0) (count n:Nat) (hn:n≤count):liesAt P P.depth e count 0 e n=true:=by
 have hd:P.depth=(2*(P.types.size+Made.depth)+1)+1:=rfl
 rw [hd]
 simp only [liesAt,Bool.or_eq_true]
 left
 rw [hd]
 simp [rowAt,hc,hn,hs,sameLayout]
def jk (N:gH):Prop:=(∀T,N.tag 1 T→T=380)∧∀T,N.tag 2 T→T=5
set_option maxRecDepth 100000 in
set_option maxHeartbeats 1000000 in
theorem AN {k:Nat} {cs:Array Value} {fr:Nat×Nat} (hk:w.heap[k]?=some (.cells cs 380 fr)) (h2:2≤cs.size) (h0:w.cell? ⟨k,0,none⟩=some (.pointer none)) (hf:w.frozen? ⟨k,0,none⟩=false)
 (hs:(Instr.storeAt 378 (.pointer (some ⟨k,0,none⟩)) (.pointer (some ⟨k,0,none⟩))).run Tryz.prog w=.ok () w') :
 CallsIn (Fw none) 0 Tryz.prog 406 #[.pointer (some ⟨k,0,none⟩)] w fun e w2=>e=.returned (.tuple #[])∧w2=w':=by
 refine callsIn_of_wp Tryz.func406 rfl trivial ?_ rfl
 have hn:Tryz.f406.ntmps=20:=rfl
 simp only [hn,List.size_toArray,List.length_cons,List.length_nil,Nat.reduceAdd,Nat.reduceSub,Array.replicate_succ,Array.replicate_zero,List.push_toArray,List.append_toArray,List.nil_append,List.cons_append]
 gi_wp2
 have hsh:w.shape? k=some (380,cs.size):=by simp [World.shape?,hk]
 have hcs:Tryz.prog.cellsOf 380=2:=by kernel_rfl
 rw [Lib.run_to_unsafe (src:=378) (t:=380) w ⟨k,0,none⟩ Tryz.underlying378 (by kernel_rfl) (bu Tryz.typeInfo380) (by decide) hsh (by show 0<cs.size;omega)]
 simp only [Result.andThen]
 gi_wp2
 rw [run_callFunc_extern Tryz.func421 (by kernel_rfl) (by kernel_rfl) (by kernel_rfl) (e:=Extern.AbiNoEscape.same) (by kernel_rfl),Lib.run_noEscape]
 simp only [Result.andThen]
 gi_wp2
 rw [Lib.run_from_unsafe (dst:=378) (u:=380) w ⟨k,0,none⟩ (by kernel_rfl) Tryz.underlying378 (bu Tryz.typeInfo380) hsh (BC hcs (by decide) _ _ (by rw [hcs];omega))]
 simp only [Result.andThen]
 gi_wp2
 have hst:(Instr.storeAt 378 (.pointer (some ⟨k,0,none⟩)) (.pointer (some ⟨k,0,none⟩))).run Tryz.prog w=.ok () (w.setCell ⟨k,0,none⟩ (.pointer (some ⟨k,0,none⟩))):=by
  simp [Instr.storeAt,Instr.sureAddr,storeVar,go_sem,stored,hf,h0,Tryz.sizeOf378,Tryz.isAgg378]
 rw [hst] at hs
 cases hs
 go_end0
 exact ⟨rfl,rfl⟩
set_option maxRecDepth 100000 in
set_option maxHeartbeats 1000000 in
theorem AO {k:Nat} (h0:w.cell? ⟨k,0,none⟩=some (.pointer (some ⟨k,0,none⟩))) :
 CallsIn (Fw none) 0 Tryz.prog 406 #[.pointer (some ⟨k,0,none⟩)] w fun e w2=>e=.returned (.tuple #[])∧w2=w:=by
 refine callsIn_of_wp Tryz.func406 rfl trivial ?_ rfl
 have hn:Tryz.f406.ntmps=20:=rfl
 simp only [hn,List.size_toArray,List.length_cons,List.length_nil,Nat.reduceAdd,Nat.reduceSub,Array.replicate_succ,Array.replicate_zero,List.push_toArray,List.append_toArray,List.nil_append,List.cons_append]
 gi_wp2
 rw [Lib.run_neq_ptr_same w ⟨k,0,none⟩ Tryz.underlying378 (bu Tryz.typeInfo380)]
 simp only [Result.andThen]
 gi_wp2
 go_end0
 exact ⟨rfl,rfl⟩
set_option maxRecDepth 100000 in
set_option maxHeartbeats 1000000 in
theorem Dp {k g cap cells:Nat} {l:List UInt8} (h1:w.cell? ⟨k,1,none⟩=some (.slice (some ⟨g,0,none⟩) l.length cap)) (hg:w.shape? g=some (5,cells)) (h0:l≠[]) (hn:l.length≤cells) (hc:l.length≤cap) (hm:l.length≤2^60)
 (hcell:∀j x,l[j]?=some x→w.cell? ((⟨g,0,none⟩:Addr).add j)=some (.int .u8 x.toNat)) :
 CallsIn (Fw none) 0 Tryz.prog 349 #[.pointer (some ⟨k,0,none⟩)] w fun e w2=>e=.returned (.string ⟨l.toArray⟩)∧w2=w.drew.freeze ⟨g,0,none⟩ l.length:=by
 have hl0:l.length≠0:=by simpa using h0
 have c1:w.drew.cell? ⟨k,1,none⟩=some (.slice (some ⟨g,0,none⟩) l.length cap):=h1
 have hSD:(Builtin.unsafeSliceData_ #[221] 417 #[.slice (some ⟨g,0,none⟩) l.length cap]).run Tryz.prog w.drew=.ok (.pointer (some ⟨g,0,none⟩)) w.drew :=
  Lib.run_unsafeSliceData_row _ _ _ _ _ _ (by omega)
 have hUS:(Builtin.unsafeString_ #[417,3] 9 #[.pointer (some ⟨g,0,none⟩),.int .i64 l.length]).run Tryz.prog w.drew=.ok (.string ⟨l.toArray⟩) (w.drew.freeze ⟨g,0,none⟩ l.length) :=
  Lib.run_unsafeString_row w.drew 417 3 9 5 Tryz.underlying417 (by kernel_rfl) g cells hg l h0 hn (by omega) hcell
 have mixed:Tryz.prog.follows .mixedOrders=true:=by kernel_rfl
 refine callsIn_of_wp Tryz.func349 rfl trivial ?_ rfl
 have hn:Tryz.f349.ntmps=14:=rfl
 simp only [hn,List.size_toArray,List.length_cons,List.length_nil,Nat.reduceAdd,Nat.reduceSub,Array.replicate_succ,Array.replicate_zero,List.push_toArray,List.append_toArray,List.nil_append,List.cons_append]
 gi_wp2
 gi_region
 gi_wp2
 go_ret
 exact ⟨rfl,rfl⟩
theorem Gr {a:Addr} {n:Nat}:(w.freeze a n).heap.size=w.heap.size:=by unfold World.freeze;split<;>simp
theorem DR {a:Addr} {n k:Nat} (h:k≠a.block):(w.freeze a n).heap[k]?=w.heap[k]?:=by
 unfold World.freeze
 split
 ·rfl
 ·simp only [Array.getElem?_modify];rw [if_neg (Ne.symm h)]
theorem IU {a:Addr} {n:Nat}:eY w (w.freeze a n):=by
 unfold World.freeze
 split<;>exact .refl
theorem HR.free (h:HR N φ H w) {b:Nat} {L:Dh} (hL:φ b=some L) (hc:∀r:Loop,w.heap[L.cb]?≠some (.loop r)) (hs:w'.heap.size=w.heap.size) (ho:∀k,k≠L.cb→w'.heap[k]?=w.heap[k]?) (he:eY w w') :
 HR N (dO φ b) (H.set b .dead) w'∧bZ φ H.length w (dO φ b) (H.set b .dead).length w':=by
 have hx:bZ φ H.length w (dO φ b) H.length w' :=
  {le:=Nat.le_refl _
   env:=he
   size:=by omega
   loc:=fun k _ L' hL'=>by
    simp only [dO] at hL'
    split at hL'
    ·cases hL'
    ·exact ⟨L',hL',Nat.le_refl _,fun _=>rfl⟩
   same:=fun cb o hc' hn=>(ho cb fun e=>hn.1 b L hL e.symm).trans hc'
   nolive:=fun cb _ hn=>by
    refine ⟨fun k L' hL'=>?_,hn.2⟩
    simp only [dO] at hL'
    split at hL'
    ·cases hL'
    ·exact hn.1 k L' hL'
   res:=rfl
   keep:=fun cb o hr hc'=>(ho cb fun e=>h.resn b L hL (by rw [←e];exact hr)).trans hc'
   loops:=fun cb r hc'=>⟨r,(ho cb fun e=>hc r (by rw [←e];exact hc')).trans hc'⟩ }
 have hno:∀y:bL,y≠.dead→(H.set b .dead)[b]?≠some y:=by
  intro y hy e
  rcases Nat.lt_or_ge b H.length with h1 | h1
  ·simp [h1] at e;exact hy e.symm
  ·rw [List.getElem?_eq_none (by simpa using h1)] at e;cases e
 refine ⟨h.change (by simpa using hx) b ?_ ?_ ?_ ?_ ?_ ?_ ?_ ?_ ?_,by simpa using hx⟩
 ·intro k hk;exact List.getElem?_set_ne (Ne.symm hk)
 ·intro k hk;simp [dO,hk]
 ·intro k L' hk hL';exact ho _ fun e=>hk (h.inj k b L' L hL' hL e)
 ·intro _;simp [dO]
 ·intro L' hL';simp [dO] at hL'
 ·intro _ _ _ hb;exact absurd hb (hno _ (by simp))
 ·intro _ hb;exact absurd hb (hno _ (by simp))
 ·intro _ _ _ _ _ _ hb;exact absurd hb (hno _ (by simp))
 ·intro _ _ _ hb;exact absurd hb (hno _ (by simp))
def tg:List AV→Option UInt8
 | [.int .u8 n]=>if 0≤n∧n<256 then some (UInt8.ofNat n.toNat) else none
 | _=>none
theorem tj:∀{rows:List (List AV)} {x:List UInt8},rows.mapM tg=some x→rows=x.map bR
 | [],x,h=>by simp at h;subst h;simp
 | r::rows,x,h=>by
  rw [List.mapM_cons] at h
  cases hr:tg r with
  | none=>rw [hr] at h;simp at h
  | some n =>
   rw [hr] at h
   cases hm:rows.mapM tg with
   | none=>rw [hm] at h;simp at h
   | some y =>
    rw [hm] at h
    simp at h;subst h
    rw [List.map_cons,←tj hm]
    congr 1
    unfold tg at hr
    split at hr
    ·rename_i k
     split at hr
     ·rename_i hk
      cases hr
      unfold bR
      congr 2
      rw [UInt8.toNat_ofNat',Nat.mod_eq_of_lt (by omega)]
      omega
     ·cases hr
    ·cases hr
theorem vL:∀l:List UInt8,(l.map bR).mapM tg=some l
 | []=>rfl
 | x::l=>by
  have hb:tg (bR x)=some x:=by
   have:=x.toNat_lt
   show (if (0:Int)≤(x.toNat:Int)∧(x.toNat:Int)<256 then some (UInt8.ofNat (x.toNat:Int).toNat) else none)=some x
   rw [if_pos ⟨by omega,by omega⟩];simp
  rw [List.map_cons,List.mapM_cons,hb,vL l];rfl
def ut (base:Nat) (args:List AV) (H:ae):Option (AV×ae) :=
 match args with
 | [.ptr b 1 2 0 0] =>
  match H[b]? with
  | some (.rows 2 1 [[a,v]])=>if base≤b then match a with
   | .nilp=>some (.tup [],H.set b (.rows 2 1 [[.ptr b 1 2 0 0,v]]))
   | .ptr b' 1 2 0 0=>if b'=b then some (.tup [],H.set b (.rows 2 1 [[.ptr b 1 2 0 0,v]])) else none
   | _=>none
   else none
  | _=>none
 | _=>none
def BO (base:Nat) (args:List AV) (H:ae):Option (AV×ae) :=
 match args with
 | [.ptr b 1 2 0 0] =>
  match H[b]? with
  | some (.rows 2 1 [[_,.sl b' g' 1 0 len]]) =>
   match H[b']? with
   | some (.rows 1 g'' rs) =>
    match rs.mapM tg with
    | some l=>if base≤b'∧g' % 4=2∧g''=g'∧l.length=len∧len≠0∧len≤2^60 then some (.str l,H.set b' .dead) else none
    | none=>none
   | _=>none
  | _=>none
 | _=>none
theorem IL (hT:jk N):gL Tryz.prog N 406 ut:=by
 refine ⟨⟨_,Tryz.func406,rfl⟩,fun base args H v H' h φ w Vs hb hH ht=>?_⟩
 unfold ut at h
 split at h
 ·rename_i b
  split at h
  ·rename_i a u hblk
   split at h
   ·rename_i hbb
    obtain ⟨X,rfl,h1⟩:=qG ht
    obtain ⟨L,cs,T,fr,e1,e2,e3,e4,e5,e6⟩:=hH.rows _ _ _ _ hblk
    have hTT:=hT.1 T (e5.2.1.1 rfl)
    subst hTT
    have hs2:2≤cs.size:=by have:=e6.1;simpa using this
    have hX:=h1
    cases h1 with
    | ptr hbn hh =>
     rename_i ad
     have ha:=(hh L e1).2 e2.symm
     simp only [Nat.zero_mul,Nat.zero_add] at ha
     subst ha
     obtain ⟨_,V,c1,c2⟩:=(e6.2 0 _ rfl).2 0 a rfl
     simp only [Nat.zero_mul,Nat.zero_add] at c1
     have hc0:w.cell? ⟨L.cb,0,none⟩=some V:=by simp only [World.cell?,e3];exact c1
     split at h
     ·cases h
      cases c2
      have hst:ao Tryz.prog base H 378 (.ptr b 1 2 0 0) (.ptr b 1 2 0 0)=some (H.set b (.rows 2 1 [[.ptr b 1 2 0 0,u]])):=by
       have hsz:br Tryz.prog 378=some 1:=dx (bu Tryz.typeInfo378) rfl
       simp [ao,hsz,hblk,hbb,AV.cells,AV.leaf]
      obtain ⟨w',s1,s2,s3,s4⟩:=qD (P:=Tryz.prog) hH hX hX hst
      refine (AN e3 hs2 hc0 (by simp only [World.frozen?,e3];rw [Bool.eq_false_iff];intro hh;exact e5.1 0 (by omega) (by simpa using hh)) s1).mono ?_
      rintro e w2 ⟨rfl,rfl⟩
      exact ⟨_,φ,rfl,.tup rfl (fun j v V hj=>by simp at hj),s2,s3,s4⟩
     ·rename_i b' _
      split at h
      ·rename_i hbe
       subst hbe
       cases h
       have hset:H.set b' (.rows 2 1 [[.ptr b' 1 2 0 0,u]])=H:=by
        apply List.ext_getElem?
        intro k
        by_cases hk:b'=k
        ·subst hk
         rw [List.getElem?_set_self (List.getElem?_eq_some_iff.1 hblk).1,hblk]
        ·rw [List.getElem?_set_ne hk]
       rw [hset]
       cases c2 with
       | ptr _ hh2 =>
        rename_i ad2
        have ha2:=(hh2 L e1).2 e2.symm
        simp only [Nat.zero_mul,Nat.zero_add] at ha2
        subst ha2
        refine (AO hc0).mono ?_
        rintro e w2 ⟨rfl,rfl⟩
        exact ⟨_,φ,rfl,.tup rfl (fun j v V hj=>by simp at hj),hH,bZ.refl,fun _ _=>rfl⟩
      ·cases h
     ·cases h
   ·cases h
  ·cases h
 ·cases h
theorem Mo (hT:jk N):gL Tryz.prog N 349 BO:=by
 refine ⟨⟨_,Tryz.func349,rfl⟩,fun base args H v H' h φ w Vs hb hH ht=>?_⟩
 unfold BO at h
 split at h
 ·rename_i b
  split at h
  ·rename_i a b' g' len hblk
   split at h
   ·rename_i g'' rs hblk'
    split at h
    ·rename_i l hl
     split at h
     ·rename_i hc
      obtain ⟨hbb,hg4,rfl,rfl,hl0,hl60⟩:=hc
      cases h
      obtain ⟨X,rfl,h1⟩:=qG ht
      obtain ⟨L,cs,T,fr,e1,e2,e3,e4,e5,e6⟩:=hH.rows _ _ _ _ hblk
      obtain ⟨L',cs',T',fr',f1,f2,f3,f4,f5,f6⟩:=hH.rows _ _ _ _ hblk'
      have hTT:=hT.2 T' (f5.2.1.2 hg4)
      subst hTT
      have hrs:=tj hl
      subst hrs
      have hfit:l.length≤cs'.size:=by have:=f6.1;simpa using this
      cases h1 with
      | ptr hbn hh =>
       rename_i ad
       have ha:=(hh L e1).2 e2.symm
       simp only [Nat.zero_mul,Nat.zero_add] at ha
       subst ha
       obtain ⟨_,V,c1,c2⟩:=(e6.2 0 _ rfl).2 1 _ rfl
       simp only [Nat.zero_mul,Nat.zero_add] at c1
       have hc1:w.cell? ⟨L.cb,1,none⟩=some V:=by simp only [World.cell?,e3];exact c1
       cases c2 with
       | sl hb2 hcap hh2 =>
        rename_i cap a2
        obtain ⟨ha2,_⟩:=(hh2 L' f1).2 f2.symm
        simp only [Nat.zero_mul] at ha2
        subst ha2
        have hcell:∀j x,l[j]?=some x→w.cell? ((⟨L'.cb,0,none⟩:Addr).add j)=some (.int .u8 x.toNat):=by
         intro j x hx
         obtain ⟨_,V,d1,d2⟩:=(f6.2 j (bR x) (by simp [hx])).2 0 _ rfl
         cases d2
         have hadd:((⟨L'.cb,0,none⟩:Addr).add j)=⟨L'.cb,j,none⟩:=by by_cases hj:j=0<;>simp [Addr.add,hj]
         rw [hadd]
         simp only [World.cell?,f3]
         simpa using d1
        refine (Dp (cells:=cs'.size) hc1 (by simp [World.shape?,f3]) (by intro e;subst e;exact hl0 rfl) hfit hcap hl60 hcell).mono ?_
        rintro e w2 ⟨rfl,rfl⟩
        obtain ⟨g1,g2⟩:=hH.free (w':=w.drew.freeze ⟨L'.cb,0,none⟩ l.length) f1 (fun r hr=>by rw [f3] at hr;cases hr) (by rw [Gr];rfl) (fun k hk=>by rw [DR hk];rfl) (IU (w:=w.drew))
        refine ⟨_,_,rfl,.str _,g1,g2,fun k hk=>?_⟩
        rw [List.getElem?_set_ne (by omega)]
     ·cases h
    ·cases h
   ·cases h
  ·cases h
 ·cases h
theorem DE {C:bD} (hp:C.prim 406=some ut) (h1:C.pure 406=false) (h2:C.frz 406=false) {base:Nat} {H:ae} {b:Nat} {a v:AV} (hb:base≤b) (hg:H[b]?=some (.rows 2 1 [[a,v]])) (ha:a=.nilp∨a=.ptr b 1 2 0 0) (K:AV→ae→Prop) :
 aF Tryz.prog C base (.fn 406 []) [.ptr b 1 2 0 0] H K=K (.tup []) (H.set b (.rows 2 1 [[.ptr b 1 2 0 0,v]])):=by
 have e:ut base [.ptr b 1 2 0 0] H=some (.tup [],H.set b (.rows 2 1 [[.ptr b 1 2 0 0,v]])):=by
  unfold ut
  rcases ha with rfl | rfl<;>simp only [hg,if_pos hb,if_true]
 exact dY hp h1 h2 e K
theorem HP {C:bD} (hp:C.prim 349=some BO) (h1:C.pure 349=false) (h2:C.frz 349=false) {base:Nat} {H:ae} {b:Nat} {a v:AV} {l:List UInt8} (hb:base≤b) (hg:H[b]?=some (.rows 2 1 [[a,v]])) (hn:l≠[]) (hl:l.length≤2^60)
 (hv:∃b' g',v=.sl b' g' 1 0 l.length∧base≤b'∧g' % 4=2∧H[b']?=some (.rows 1 g' (l.map bR))):∃H',∀K:AV→ae→Prop,
 aF Tryz.prog C base (.fn 349 []) [.ptr b 1 2 0 0] H K=K (.str l) H':=by
 obtain ⟨b',g',rfl,hb',hg4,hg2⟩:=hv
 have e:BO base [.ptr b 1 2 0 0] H=some (.str l,H.set b' .dead):=by
  unfold BO
  simp only [hg,hg2,vL]
  rw [if_pos ⟨hb',hg4,trivial,trivial,by simpa using hn,hl⟩]
 exact ⟨_,fun K=>dY hp h1 h2 e K⟩
end Go.Proofs.Ev
namespace Go.Proofs.Ev
open Go.Proofs Go.RowKit Go.Sort
variable {N:gH} {φ:fJ} {H:ae} {w w':World} {P:Program}
def nP:AV→Value
 | .int k n=>.int k n
 | _=>Go.undef
structure pH (α:Type) where
 cells:α→List AV
 k:Nat
 pos:0<k
 len:∀x,(cells x).length=k
 ints:∀x,∀v∈cells x,∃kd n,v=AV.int kd n
variable {α:Type} [Inhabited α] (E:pH α)
def pH.enc (x:α):List Value:=(E.cells x).map nP
theorem pH.enc_len (x:α):(E.enc x).length=E.k:=by simp [pH.enc,E.len]
theorem pH.one (x:α):∀v∈E.enc x,v.oneCell'=true:=by
 intro v hv
 obtain ⟨a,ha,rfl⟩:=List.mem_map.1 hv
 obtain ⟨kd,n,rfl⟩:=E.ints x a ha
 rfl
theorem pH.get {x:α} {j:Nat} {v:AV} (h:(E.cells x)[j]?=some v):v.leaf=true∧(E.enc x)[j]?=some (nP v)∧(∀φ n w,RV φ n w v (nP v))∧∀φ n w V,RV φ n w v V→V=nP v:=by
 obtain ⟨kd,n,rfl⟩:=E.ints x v (List.mem_of_getElem? h)
 exact ⟨rfl,by simp [pH.enc,h],fun _ _ _=>.int _ _,fun _ _ _ V hV=>by cases hV;rfl⟩
theorem IN {i j s:Nat} (hj:j<s):(i*s+j) / s=i:=by
 rw [Nat.mul_comm,Nat.mul_add_div (by omega),Nat.div_eq_of_lt hj,Nat.add_zero]
theorem pH.holds (hH:HR N φ H w) {b g:Nat} {l:List α} (hb:H[b]?=some (.rows E.k g (l.map E.cells))) {L:Dh} (hL:φ b=some L):HoldsK E.enc E.k w L.cb 0 l.toArray:=by
 obtain ⟨L',cs,T,fr,h1,h2,h3,h4,h5,h6⟩:=hH.rows _ _ _ _ hb
 rw [hL] at h1;cases h1
 intro t ht
 rw [size_flatK] at ht
 simp only [List.size_toArray] at ht
 have hi:t / E.k<l.length:=Nat.div_lt_of_lt_mul (by rw [Nat.mul_comm];exact ht)
 have hj:t % E.k<E.k:=Nat.mod_lt _ E.pos
 have hrow:(l.map E.cells)[t / E.k]?=some (E.cells l[t / E.k]):=by simp [hi]
 obtain ⟨v,hv⟩:∃v,(E.cells l[t / E.k])[t % E.k]?=some v:=⟨(E.cells l[t / E.k])[t % E.k]'(by rw [E.len];exact hj),List.getElem?_eq_getElem _⟩
 obtain ⟨_,V,c1,c2⟩:=(h6.2 _ _ hrow).2 _ _ hv
 obtain ⟨_,e2,_,e4⟩:=E.get hv
 have hV:=e4 _ _ _ _ c2
 subst hV
 have hdm:t / E.k*E.k+t % E.k=t:=by rw [Nat.mul_comm];exact Nat.div_add_mod t E.k
 rw [hdm] at c1
 have hget:(flatK E.enc E.k l.toArray)[t]! = nP v:=by
  rw [get_flatK _ _ _ _ (by simpa using ht)]
  have h1:l.toArray[t / E.k]! = l[t / E.k]:=by simp [hi]
  rw [h1,List.getElem!_eq_getElem?_getD,e2]
  rfl
 have hlt:=bh (show cs.toList[t]?=some (nP v) by simpa using c1)
 refine ⟨?_,?_⟩
 ·rw [Nat.zero_add,hget]
  simp only [World.cell?,h3]
  exact c1
 ·rw [Nat.zero_add]
  have:=h5.1 t (by simpa using hlt)
  simp only [World.frozen?,h3]
  rw [Bool.eq_false_iff]
  intro hh
  exact this (by simpa using hh)
theorem pH.lay (hH:HR N φ H w) {b g:Nat} {l l':List α} (hb:H[b]?=some (.rows E.k g (l.map E.cells))) (hl:l'.length=l.length) {L:Dh} (hL:φ b=some L) (n:Nat) (os:Array Obj) :
 HR N φ (H.set b (.rows E.k g (l'.map E.cells))) (sortWorldK E.enc E.k w L.cb 0 n l'.toArray os)∧bZ φ H.length w φ H.length (sortWorldK E.enc E.k w L.cb 0 n l'.toArray os):=by
 obtain ⟨L',cs,T,fr,h1,h2,h3,h4,h5,h6⟩:=hH.rows _ _ _ _ hb
 rw [hL] at h1;cases h1
 let cs':=putCells id 0 (flatK E.enc E.k l'.toArray) cs
 have hcs:cs'.size=cs.size:=by simp [cs',putCells]
 have hput:=hH.put hL (.cells cs' T fr) (.rows E.k g (l'.map E.cells)) (fun r hr=>by rw [h3] at hr;cases hr) (by simp) (by
  intro esz g' rs e
  cases e
  refine ⟨cs',T,fr,h2,rfl,by rw [hcs];exact h4,by rw [hcs];exact h5,?_⟩
  refine ⟨by rw [hcs];have:=h6.1;simp only [List.length_map] at this ⊢;rw [hl];exact this,fun i row hi=>?_⟩
  obtain ⟨x,hx,rfl⟩:∃x,l'[i]?=some x∧E.cells x=row:=by simpa using hi
  refine ⟨E.len x,fun j v hj=>?_⟩
  obtain ⟨e1,e2,e3,_⟩:=E.get hj
  refine ⟨e1,_,?_,e3 _ _ _⟩
  have hjk:j<E.k:=by have:=bh hj;rw [E.len] at this;exact this
  have hil:=bh hx
  have hlt:i*E.k+j<l'.length*E.k:=pz hil hjk
  have hlt2:i*E.k+j<cs.size:=by have:=h6.1;simp only [List.length_map] at this;rw [hl] at hlt;omega
  have hget:(flatK E.enc E.k l'.toArray)[i*E.k+j]! = nP v:=by
   rw [get_flatK _ _ _ _ (by simpa using hlt),IN hjk,CP hjk]
   have h1:l'.toArray[i]! = x:=by simp [hx]
   rw [h1,List.getElem!_eq_getElem?_getD,e2]
   rfl
  show (putCells id 0 (flatK E.enc E.k l'.toArray) cs)[i*E.k+j]?=_
  unfold putCells
  rw [Array.getElem?_mapIdx,Array.getElem?_eq_getElem hlt2]
  simp only [Option.map_some,size_flatK,List.size_toArray,Nat.zero_le,Nat.zero_add,true_and,hlt,if_true,Nat.sub_zero,id]
  rw [hget]) (by simp) (by simp)
 have hx:=bZ.put hH hL (.cells cs' T fr) (fun r hr=>by rw [h3] at hr;cases hr)
 have hlt:=(hH.base b L hL).2
 have hk:∀(cb:Nat) (o:Obj),(bA w L.cb (.cells cs' T fr)).heap[cb]?=some o→(sortWorldK E.enc E.k w L.cb 0 n l'.toArray os).heap[cb]?=some o:=by
  intro cb o ho
  have hcb:cb<w.heap.size:=by have:=(Array.getElem?_eq_some_iff.1 ho).1;simpa using this
  show ((putRow id (Sort.ahead w n) L.cb 0 (flatK E.enc E.k l'.toArray)).heap++os)[cb]?=some o
  rw [Array.getElem?_append_left (by simpa [Sort.ahead] using hcb)]
  simp only [putRow,mapBlock,Sort.ahead,Array.getElem?_modify]
  by_cases e:L.cb=cb
  ·subst e
   rw [cI hlt] at ho
   rw [if_pos rfl,h3]
   simpa [onCells] using ho
  ·rw [if_neg e]
   rw [bm e] at ho
   exact ho
 have hs:(bA w L.cb (.cells cs' T fr)).heap.size≤(sortWorldK E.enc E.k w L.cb 0 n l'.toArray os).heap.size:=by
  simp [sortWorldK,grow,putRowK,Sort.ahead]
 exact ⟨hput.keeps hs hk .refl,hx.trans (bZ.keeps hs hk .refl)⟩
end Go.Proofs.Ev
namespace Go.Proofs.Ev
open Go.Proofs Go.Sort
variable {w w':World}
theorem pZ {X:World} (blk off cap:Nat) (d:List Nat) (hc:∀(j n:Nat),d[j]?=some n→X.cell? ⟨blk,off+j,none⟩=some (.int .u8 (n:Int))) :
 (Extern.Bytes.bytesOf (.slice (some ⟨blk,off,none⟩) d.length cap)).run Tryz.prog X=.ok ⟨(d.map UInt8.ofNat).toArray⟩ X:=by
 have hl:=Lib.run_loadBytesX (P:=Tryz.prog) X (d.map fun n:Nat=>(n:Int)) ⟨blk,off,none⟩ .empty (fun j n hj=>by
  rw [List.getElem?_map] at hj
  cases hm:d[j]? with
  | none=>rw [hm] at hj;cases hj
  | some m =>
   rw [hm] at hj
   simp at hj;subst hj
   have ha:(⟨blk,off,none⟩:Addr).add j=⟨blk,off+j,none⟩:=by by_cases hj0:j=0<;>simp [Addr.add,hj0]
   rw [ha];exact hc j m hm)
 rw [List.length_map] at hl
 have hb2:Lib.bytesOf (d.map fun n:Nat=>(n:Int))=d.map UInt8.ofNat:=by simp [Lib.bytesOf]
 rw [hb2] at hl
 show (Extern.Bytes.loadBytes _ d.length .empty).run Tryz.prog X=_
 rw [hl]
 congr 1
 apply ByteArray.ext
 show (#[]:Array UInt8)++_=_
 simp
theorem vX (o1 o2:Obj):((w.alloc o1).alloc o2).drew=grow (w.drewN 1) #[o1,o2]:=by
 have h:(w.heap.push o1).push o2=w.heap++#[o1,o2]:=by apply Array.ext';simp
 show ({ w with heap:=(w.heap.push o1).push o2,drawn:=w.drawn+1 }:World)={ w with heap:=w.heap++#[o1,o2],drawn:=w.drawn+1 }
 rw [h]
def fw (d:List Nat):List Value:=d.map fun n:Nat=>.int .u8 (n:Int)
set_option maxRecDepth 100000 in
set_option maxHeartbeats 1000000 in
theorem Dq (x y:List Nat) (hx:x.length=32) (hy:y.length=32) (hxb:∀n∈x,n<256) (hyb:∀n∈y,n<256) (w:World) :
 CallsIn (Fw none) 0 Tryz.prog 81 #[.agg (fw x).toArray,.agg (fw y).toArray] w fun e w'=>e=.returned (.int .i64 (bQ x y))∧∃q os,w'=grow (w.drewN q) os:=by
 refine callsIn_of_wp Tryz.func81 rfl trivial ?_ rfl
 have mixed:Tryz.prog.follows .mixedOrders=true:=by kernel_rfl
 have hn:Tryz.f81.ntmps=8:=rfl
 simp only [hn,List.size_toArray,List.length_cons,List.length_nil,Nat.reduceAdd,Nat.reduceSub,Array.replicate_succ,Array.replicate_zero,List.push_toArray,List.append_toArray,List.nil_append,List.cons_append]
 gi_wp2
 have hcell:∀(W:World) (b:Nat) (d:List Nat) (T:TypeId),W.heap[b]?=some (.cells (fw d).toArray T (0,0))→∀(j n:Nat),d[j]?=some n→W.cell? ⟨b,0+j,none⟩=some (.int .u8 (n:Int)):=by
  intro W b d T hb j n hj
  simp [World.cell?,hb,fw,hj]
 generalize hW:(w.alloc (Obj.cells (fw x).toArray 25)).alloc (Obj.cells (fw y).toArray 25)=W
 have e1:W.heap[w.heap.size]?=some (.cells (fw x).toArray 25 (0,0)):=by
  rw [←hW];exact (aY (by simp)).trans bo
 have e2:W.heap[w.heap.size+1]?=some (.cells (fw y).toArray 25 (0,0)):=by
  rw [←hW]
  have:=bo (w:=w.alloc (Obj.cells (fw x).toArray 25)) (o:=Obj.cells (fw y).toArray 25)
  simpa using this
 have b1:=pZ (X:=W.drew) w.heap.size 0 32 x (hcell W.drew w.heap.size x _ e1)
 have b2:=pZ (X:=W.drew) (w.heap.size+1) 0 32 y (hcell W.drew (w.heap.size+1) y _ e2)
 rw [hx] at b1
 rw [hy] at b2
 gi_region_with_o (gi_at_call 137;refine (tn b1 b2 (by rw [hx,hy]) hxb hyb).mono ?_;rintro e w' ⟨rfl,rfl⟩)
 gi_wp2
 go_ret
 refine ⟨rfl,1,#[Obj.cells (fw x).toArray 25,Obj.cells (fw y).toArray 25],?_⟩
 rw [←hW]
 exact vX _ _
def kg (x:aC):List Value:=fw x.d++[.int .i64 x.n]
theorem oP (n:Int) (w:World):CallsIn (Fw none) 0 Tryz.prog 233 #[.int .i64 n] w fun e w'=>e=.returned (.bool false)∧w'=w:=by
 refine callsIn_of_wp Tryz.func233 rfl trivial ?_ rfl
 have hn:Tryz.f233.ntmps=6:=rfl
 simp only [hn,List.size_toArray,List.length_cons,List.length_nil,Nat.reduceAdd,Nat.reduceSub,Array.replicate_succ,Array.replicate_zero,List.push_toArray,List.append_toArray,List.nil_append,List.cons_append]
 gi_wp2
 go_ret
 exact ⟨rfl,rfl⟩
def tD (a b:Int):Int:=if a<b then -1 else if b<a then 1 else 0
set_option maxRecDepth 100000 in
set_option maxHeartbeats 1000000 in
theorem yL (a b:Int) (w:World):CallsIn (Fw none) 0 Tryz.prog 161 #[.int .i64 a,.int .i64 b] w fun e w'=>e=.returned (.int .i64 (tD a b))∧w'=w:=by
 refine callsIn_of_wp Tryz.func161 rfl trivial ?_ rfl
 have hn:Tryz.f161.ntmps=20:=rfl
 simp only [hn,List.size_toArray,List.length_cons,List.length_nil,Nat.reduceAdd,Nat.reduceSub,Array.replicate_succ,Array.replicate_zero,List.push_toArray,List.append_toArray,List.nil_append,List.cons_append]
 by_cases h1:a<b
 ·gi_wp2_with (gi_at_call 233;refine (oP _ _).mono ?_;rintro e w' ⟨rfl,rfl⟩)
  all_goals (go_ret;exact ⟨by simp [tD,h1],rfl⟩)
 ·by_cases h2:b<a
  ·gi_wp2_with (gi_at_call 233;refine (oP _ _).mono ?_;rintro e w' ⟨rfl,rfl⟩)
   all_goals (go_ret;exact ⟨by simp [tD,h1,h2],rfl⟩)
  ·gi_wp2_with (gi_at_call 233;refine (oP _ _).mono ?_;rintro e w' ⟨rfl,rfl⟩)
   all_goals (go_ret;exact ⟨by rw [tD,if_neg (by omega),if_neg (by omega)];rfl,rfl⟩)
set_option maxRecDepth 100000 in
set_option maxHeartbeats 1000000 in
theorem Dr (x y:aC) (w:World) :
 CallsIn (Fw none) 0 Tryz.prog 96 #[.agg (kg x).toArray,.agg (kg y).toArray] w fun e w'=>e=.returned (.int .i64 (df x y))∧∃q os,w'=grow (w.drewN q) os:=by
 refine callsIn_of_wp Tryz.func96 rfl trivial ?_ rfl
 have mixed:Tryz.prog.follows .mixedOrders=true:=by kernel_rfl
 have hn:Tryz.f96.ntmps=19:=rfl
 simp only [hn,List.size_toArray,List.length_cons,List.length_nil,Nat.reduceAdd,Nat.reduceSub,Array.replicate_succ,Array.replicate_zero,List.push_toArray,List.append_toArray,List.nil_append,List.cons_append]
 gi_wp2
 have hcell:∀(W:World) (b:Nat) (z:aC) (T:TypeId),W.heap[b]?=some (.cells (kg z).toArray T (0,0))→(∀(j n:Nat),z.d[j]?=some n→W.cell? ⟨b,0+j,none⟩=some (.int .u8 (n:Int)))∧W.cell? ⟨b,32,none⟩=some (.int .i64 z.n):=by
  intro W b z T hb
  have h32:(fw z.d).length=32:=by simp [fw,z.h]
  refine ⟨fun j n hj=>?_,?_⟩
  ·have hlt:=bh hj
   simp only [World.cell?,hb,kg,Nat.zero_add,List.getElem?_toArray]
   rw [List.getElem?_append_left (by rw [h32,←z.h];exact hlt)]
   simp [fw,hj]
  ·simp only [World.cell?,hb,kg,List.getElem?_toArray]
   rw [List.getElem?_append_right (by rw [h32];exact Nat.le_refl _),h32]
   rfl
 generalize hW:(w.alloc (Obj.cells (kg x).toArray 27)).alloc (Obj.cells (kg y).toArray 27)=W
 have e1:W.heap[w.heap.size]?=some (.cells (kg x).toArray 27 (0,0)):=by
  rw [←hW];exact (aY (by simp)).trans bo
 have e2:W.heap[w.heap.size+1]?=some (.cells (kg y).toArray 27 (0,0)):=by
  rw [←hW]
  have:=bo (w:=w.alloc (Obj.cells (kg x).toArray 27)) (o:=Obj.cells (kg y).toArray 27)
  simpa using this
 have b1:=pZ (X:=W.drew) w.heap.size 0 32 x.d (hcell W.drew w.heap.size x _ e1).1
 have b2:=pZ (X:=W.drew) (w.heap.size+1) 0 32 y.d (hcell W.drew (w.heap.size+1) y _ e2).1
 rw [x.h] at b1
 rw [y.h] at b2
 have c1:=(hcell W.drew w.heap.size x _ e1).2
 have c2:=(hcell W.drew (w.heap.size+1) y _ e2).2
 clear hcell
 gi_region_with_o (gi_at_call 137;refine (tn b1 b2 (by rw [x.h,y.h]) x.b y.b).mono ?_;rintro e w' ⟨rfl,rfl⟩)
 have fin:∃q os,W.drew=grow (w.drewN q) os:=⟨1,#[Obj.cells (kg x).toArray 27,Obj.cells (kg y).toArray 27],by rw [←hW];exact vX _ _⟩
 by_cases h0:bQ x.d y.d=0
 ·have hI:df x y=tD x.n y.n:=by rw [df,if_pos h0];rfl
  rw [h0]
  gi_wp2_with (gi_at_call 161;refine (yL _ _ _).mono ?_;rintro e w' ⟨rfl,rfl⟩)
  go_ret
  exact ⟨by rw [hI];rfl,fin⟩
 ·have hI:df x y=bQ x.d y.d:=by rw [df,if_neg h0]
  gi_wp2
  go_ret
  exact ⟨by rw [hI];rfl,fin⟩
theorem qS:∀a:List Nat,bQ a a=0
 | []=>rfl
 | x::a=>by rw [bQ,if_neg (by omega),if_neg (by omega)];exact qS a
theorem iq:∀a b:List Nat,bQ b a = - bQ a b
 | [],[]=>rfl
 | [],_::_=>rfl
 | _::_,[]=>rfl
 | x::a,y::b=>by
  rw [bQ,bQ,iq a b]
  by_cases h1:x<y
  ·rw [if_neg (by omega),if_pos h1,if_pos h1];rfl
  ·by_cases h2:y<x
   ·rw [if_pos h2,if_neg h1,if_pos h2]
   ·rw [if_neg h2,if_neg h1,if_neg h1,if_neg h2]
theorem j8:∀a b:List Nat,bQ a b = -1∨bQ a b=0∨bQ a b=1
 | [],_=>.inr (.inl (by cases ‹List Nat›<;>rfl))
 | _::_,[]=>.inr (.inl rfl)
 | x::a,y::b=>by
  rw [bQ]
  by_cases h1:x<y
  ·rw [if_pos h1];exact .inl rfl
  ·by_cases h2:y<x
   ·rw [if_neg h1,if_pos h2];exact .inr (.inr rfl)
   ·rw [if_neg h1,if_neg h2];exact j8 a b
theorem mn:∀{a b c:List Nat},a.length=b.length→b.length=c.length→bQ a b≤0→bQ b c≤0→bQ a c≤0∧(bQ a c=0→bQ a b=0∧bQ b c=0)
 | [],[],[],_,_,_,_=>⟨by decide,fun _=>⟨rfl,rfl⟩⟩
 | [],_::_,_,h,_,_,_=>by simp at h
 | _::_,[],_,h,_,_,_=>by simp at h
 | [],[],_::_,_,h,_,_=>by simp at h
 | _::_,_::_,[],_,h,_,_=>by simp at h
 | x::a,y::b,z::c,h,h',h1,h2=>by
  have ih:=mn (a:=a) (b:=b) (c:=c) (by simpa using h) (by simpa using h')
  rw [bQ] at h1 h2
  rw [bQ,bQ,bQ]
  by_cases a1:x<y
  ·rw [if_pos a1] at h1
   by_cases b1:y<z
   ·rw [if_pos (show x<z by omega)];exact ⟨by decide,fun h=>by cases h⟩
   ·rw [if_neg b1] at h2
    by_cases b2:z<y
    ·rw [if_pos b2] at h2;omega
    ·rw [if_pos (show x<z by omega)];exact ⟨by decide,fun h=>by cases h⟩
  ·rw [if_neg a1] at h1
   by_cases a2:y<x
   ·rw [if_pos a2] at h1;omega
   ·rw [if_neg a2] at h1
    have hxy:x=y:=by omega
    subst hxy
    by_cases b1:x<z
    ·rw [if_pos b1];exact ⟨by decide,fun h=>by cases h⟩
    ·rw [if_neg b1] at h2
     by_cases b2:z<x
     ·rw [if_pos b2] at h2;omega
     ·rw [if_neg b2] at h2
      simp only [if_neg b1,if_neg b2,if_neg a1]
      exact ih h1 h2
theorem HT {α:Type} (cf:α→α→Int) (h0:∀x,cf x x=0) (ha:∀x y,cf y x = - cf x y) (ht:∀x y z,cf x y≤0→cf y z≤0→cf x z≤0∧(cf x z=0→cf x y=0∧cf y z=0)):SWO (ltOf cf):={
 irrefl x:=by simp [ltOf,h0]
 trans x y z h1 h2:=by
  simp only [ltOf,decide_eq_true_eq] at h1 h2 ⊢
  obtain ⟨h3,h4⟩:=ht x y z (by omega) (by omega)
  rcases Int.lt_or_eq_of_le h3 with h | h
  ·exact h
  ·have:=(h4 h).1;omega
 ntrans x y z h1 h2:=by
  simp only [ltOf,decide_eq_false_iff_not,Int.not_lt] at h1 h2 ⊢
  have e1:=ha x y
  have e2:=ha y z
  have e3:=ha x z
  have:=(ht z y x (by omega) (by omega)).1
  omega }
theorem n9:SWO (ltOf fun a b:ar=>bQ a.d b.d):=HT _ (fun a=>qS a.d) (fun a b=>iq a.d b.d) fun a b c=>mn (by rw [a.h,b.h]) (by rw [b.h,c.h])
theorem pE:SWO (ltOf df):=by
 refine HT _ (fun a=>?_) (fun a b=>?_) fun a b c h1 h2=>?_
 ·simp [df,qS]
 ·unfold df
  have h:=iq a.d b.d
  rcases j8 a.d b.d with h1 | h1 | h1
  ·rw [h1] at h ⊢;rw [h];simp
  ·rw [h1] at h ⊢;rw [h]
   simp only [Int.neg_zero,if_true]
   split<;>split<;>first | rfl | omega | (split<;>omega)
  ·rw [h1] at h ⊢;rw [h];simp
 ·have ht:=mn (a:=a.d) (b:=b.d) (c:=c.d) (by rw [a.h,b.h]) (by rw [b.h,c.h])
  unfold df at h1 h2 ⊢
  have t1:=j8 a.d b.d
  have t2:=j8 b.d c.d
  have t3:=j8 a.d c.d
  by_cases e1:bQ a.d b.d=0
  ·by_cases e2:bQ b.d c.d=0
   ·obtain ⟨g1,g2⟩:=ht (by omega) (by omega)
    have e3:bQ a.d c.d=0:=by
     have h3:=iq a.d b.d
     have h4:=iq b.d c.d
     have h5:=iq a.d c.d
     have:=(mn (a:=c.d) (b:=b.d) (c:=a.d) (by rw [b.h,c.h]) (by rw [a.h,b.h]) (by omega) (by omega)).1
     omega
    rw [if_pos e1] at h1 ⊢
    rw [if_pos e2] at h2 ⊢
    rw [if_pos e3]
    split at h1<;>split at h2<;>(repeat' split)<;>omega
   ·rw [if_neg e2] at h2
    obtain ⟨g1,g2⟩:=ht (by omega) (by omega)
    have e3:bQ a.d c.d≠0:=fun h=>e2 (g2 h).2
    rw [if_neg e3]
    exact ⟨g1,fun h=>absurd h e3⟩
  ·rw [if_neg e1] at h1
   have h2':bQ b.d c.d≤0:=by
    by_cases e2:bQ b.d c.d=0
    ·omega
    ·rw [if_neg e2] at h2;exact h2
   obtain ⟨g1,g2⟩:=ht (by omega) h2'
   have e3:bQ a.d c.d≠0:=fun h=>e1 (g2 h).1
   rw [if_neg e3]
   exact ⟨g1,fun h=>absurd h e3⟩
end Go.Proofs.Ev
namespace Go.Proofs.Ev
open Go.Proofs Go.Sort
variable {N:gH} {φ:fJ} {H:ae} {w w':World}
theorem Dz {P:Program} {C:bD} (hS:C.Sound P N) {n:Nat} {f:FuncId} {av:List AV} {v:AV} (hf:(cx P C n 0 f av []).map (·.1)=some v) (hv:v.flat=true) (hH:HR N φ H w) {Vs:Array Value} (hargs:kF (fun v V=>RV φ H.length w v V) av Vs.toList) (hb:∀a∈av,pG 0 a) :
 CallsIn (Fw none) 0 P f Vs w fun e w'=>∃V,e=.returned V∧RV φ H.length w' v V∧HR N φ H w'∧bZ φ H.length w φ H.length w':=by
 obtain ⟨⟨v1,H1⟩,hf1,rfl⟩:=Option.map_eq_some_iff.1 hf
 obtain ⟨_,hc⟩:=(qO hS n).2.2.2.2.1 0 f av [] _ _ hf1
 have hall0:kF (fun v V=>RV (cF φ 0) 0 w v V) av Vs.toList:=by
  have h1:=hargs.get
  refine kF.of_get h1.1 fun i x y hx hy=>?_
  obtain ⟨V,h2,h3⟩:=h1.2 i x hx
  rw [h2] at hy;cases hy
  exact h3.cut (hb x (List.mem_of_getElem? hx))
 refine (hc (Nat.le_refl _) hH.empty hall0).mono ?_
 rintro e w' ⟨V,φ',rfl,hrv,h1,hx,hlow⟩
 have pres:∀(cb:Nat) (o:Obj),w.heap[cb]?=some o→w'.heap[cb]?=some o:=by
  intro cb o ho
  by_cases hr:φ.res cb
  ·exact hx.keep cb o hr ho
  ·exact hx.same cb o ho ⟨fun b L hL=>by simp [cF] at hL,hr⟩
 have hx2:bZ φ H.length w φ H.length w':=bZ.keeps hx.size pres hx.env
 exact ⟨V,rfl,hrv.flat hv,hH.keeps hx.size pres hx.env,hx2⟩
variable {α:Type} [Inhabited α]
noncomputable def iS (cf:α→α→Int) (l:List α):List α:=(pdq (ltOf cf) l.toArray 0 l.toArray.size (Lib.bitLen l.toArray.size) true true).toList
theorem ky {cf:α→α→Int} (hO:SWO (ltOf cf)) (l:List α):(iS cf l).Perm l:=by
 have h:=(pdq_sorts (ltOf cf) hO l.toArray 0 l.toArray.size (Lib.bitLen l.toArray.size) true true (Nat.zero_le _) (Nat.le_refl _) (Or.inl rfl)).1
 obtain ⟨h1,_,h3⟩:=h
 have e1:∀d:Array α,d.size=l.toArray.size→d.extract 0 l.toArray.size=d:=fun d hd=>by rw [←hd];simp
 rw [e1 _ h1,e1 _ rfl] at h3
 exact h3
theorem E6 {cf:α→α→Int} (hO:SWO (ltOf cf)) (l:List α):(iS cf l).length=l.length:=(ky hO l).length_eq
open Classical in
noncomputable def oA (E:pH α) (cf:α→α→Int) (cmp:FuncId) (base:Nat) (args:List AV) (H:ae):Option (AV×ae) :=
 match args with
 | [.sl b g esz 0 len,.fn f []] =>
  if f=cmp∧esz=E.k∧base≤b∧len≤2^40 then
   match H[b]? with
   | some (.rows e g' rs) =>
    if h:∃l:List α,rs=l.map E.cells then
     if e=E.k∧g'=g∧rs.length=len then some (.tup [],H.set b (.rows E.k g ((iS cf (Classical.choose h)).map E.cells))) else none
    else none
   | _=>none
  else none
 | [.nils,.fn f []]=>if f=cmp then some (.tup [],H) else none
 | [.lst [] _,.fn f []]=>if f=cmp then some (.tup [],H) else none
 | _=>none
theorem zF (E:pH α) (hinj:∀x y,E.cells x=E.cells y→x=y) (cf:α→α→Int) (cmp:FuncId) {base b g:Nat} {H:ae} {l:List α} (hb:base≤b) (hl:l.length≤2^40) (hg:H[b]?=some (.rows E.k g (l.map E.cells))) :
 oA E cf cmp base [.sl b g E.k 0 l.length,.fn cmp []] H=some (.tup [],H.set b (.rows E.k g ((iS cf l).map E.cells))):=by
 have h:∃l':List α,l.map E.cells=l'.map E.cells:=⟨l,rfl⟩
 have hc:Classical.choose h=l:=by
  have:=Classical.choose_spec h
  exact (List.map_inj_right hinj).1 this.symm
 simp only [oA]
 rw [if_pos ⟨trivial,trivial,hb,hl⟩,hg]
 simp only
 rw [dif_pos h,if_pos ⟨trivial,trivial,by simp⟩,hc]
theorem Da {E:pH α} {cf:α→α→Int} {cmp f:FuncId} (hO:SWO (ltOf cf)) (hT:fS Tryz.prog N) (hfn:∃fn:Func,Tryz.prog.funcs[f]?=some fn∧fn.body.isSome=true)
 (h0:∀v,v=AV.nils∨v=.lst [] true∨v=.lst [] false→(cx Tryz.prog Dv 100 0 f [v,.fn cmp []] []).map (·.1)=some (.tup []))
 (hs:∀(blk cap:Nat) (d:Array α) (w:World),HoldsK E.enc E.k w blk 0 d→blk<w.heap.size→d.size<4611686018427387904→
  Calls Tryz.prog f #[.slice (some ⟨blk,0,none⟩) d.size cap,.func (.func cmp) #[] #[]] w fun e w'=>e=.returned (.tuple #[])∧∃n os,w'=sortWorldK E.enc E.k w blk 0 n (pdq (ltOf cf) d 0 d.size (Lib.bitLen d.size) true true) os) :
 gL Tryz.prog N f (oA E cf cmp):=by
 refine ⟨hfn,fun base args H v H' h φ w Vs hb hH ht=>?_⟩
 unfold oA at h
 have empt:∀a,(a=AV.nils∨a=.lst [] true∨a=.lst [] false)→kF (fun v V=>RV φ H.length w v V) [a,.fn cmp []] Vs.toList→
  CallsIn (Fw none) 0 Tryz.prog f Vs w fun e w'=>∃V φ',e=.returned V∧RV φ' H.length w' (.tup []) V∧HR N φ' H w'∧bZ φ H.length w φ' H.length w'∧∀b,b<base→H[b]?=H[b]?:=by
  intro a ha ht
  refine (Dz (jZ hT) (h0 a ha) rfl hH ht ?_).mono ?_
  ·intro x hx
   simp only [List.mem_cons,List.not_mem_nil,or_false] at hx
   rcases hx with rfl | rfl
   ·rcases ha with rfl | rfl | rfl
    ·exact .nils
    ·exact .lst fun i row hi=>by simp at hi
    ·exact .lst fun i row hi=>by simp at hi
   ·exact .fn fun j v hj=>by simp at hj
  ·rintro e w' ⟨V,rfl,h1,h2,h3⟩
   exact ⟨V,φ,rfl,h1,h2,h3,fun _ _=>rfl⟩
 split at h
 ·rename_i b g esz len f'
  split at h
  ·rename_i hc
   obtain ⟨rfl,rfl,hbb,hlen⟩:=hc
   split at h
   ·rename_i e g' rs hblk
    split at h
    ·rename_i hl
     split at h
     ·rename_i hc2
      obtain ⟨rfl,rfl,rfl⟩:=hc2
      cases h
      have hsp:=Classical.choose_spec hl
      generalize Classical.choose hl=l at *
      subst hsp
      obtain ⟨X,Y,rfl,h1,h2⟩:=yq ht
      obtain ⟨L,cs,T,fr,e1,e2,e3,e4,e5,e6⟩:=hH.rows _ _ _ _ hblk
      cases h2 with
      | fn hz hcaps =>
       rename_i Cs
       have hC:Cs=#[]:=by simpa using hz
       subst hC
       cases h1 with
       | sl hbn hcap hh =>
        rename_i cap a
        obtain ⟨ha,_⟩:=(hh L e1).2 e2.symm
        simp only [Nat.zero_mul] at ha
        subst ha
        have hll:l.length≤2^40:=by simpa using hlen
        have hcall:=hs L.cb cap l.toArray w (E.holds hH hblk e1) (hH.base b L e1).2 (by simp only [List.size_toArray];omega)
        simp only [List.size_toArray] at hcall
        rw [List.length_map]
        refine (callsIn_wide.2 hcall:CallsIn (Fw none) 0 _ _ _ _ _).mono ?_
        rintro e w' ⟨rfl,n,os,rfl⟩
        obtain ⟨r1,r2⟩:=E.lay hH hblk (E6 hO l) e1 n os
        have hs2:(iS cf l).toArray=pdq (ltOf cf) l.toArray 0 l.length (Lib.bitLen l.length) true true:=by simp [iS]
        rw [hs2] at r1 r2
        refine ⟨_,φ,rfl,.tup rfl (fun j v V hj=>by simp at hj),?_,?_,fun k hk=>List.getElem?_set_ne (by omega)⟩
        ·exact r1
        ·simpa using r2
     ·cases h
    ·cases h
   ·cases h
  ·cases h
 ·split at h
  ·rename_i hc;subst hc;cases h
   exact empt _ (.inl rfl) ht
  ·cases h
 ·rename_i x f'
  split at h
  ·rename_i hc;subst hc;cases h
   cases x
   ·exact empt _ (.inr (.inr rfl)) ht
   ·exact empt _ (.inr (.inl rfl)) ht
  ·cases h
 ·cases h
def Im:pH aC:=⟨aC.cells,33,by decide,fun x=>by simp,fun x v hv=>by
 rcases List.mem_append.1 (show v∈dig x.d++[.int .i64 x.n] from hv) with h | h
 ·obtain ⟨n,_,rfl⟩:=List.mem_map.1 h;exact ⟨_,_,rfl⟩
 ·exact ⟨_,_,List.mem_singleton.1 h⟩⟩
def vg:pH ar:=⟨ar.cells,32,by decide,fun x=>by simp,fun x v hv=>by
 obtain ⟨n,_,rfl⟩:=List.mem_map.1 (show v∈dig x.d from hv);exact ⟨_,_,rfl⟩⟩
theorem yV (x:ar):vg.enc x=fw x.d:=by
 show (dig x.d).map nP=_
 simp [dig,fw,nP]
theorem CH (x:aC):Im.enc x=kg x:=by
 show (dig x.d++[AV.int .i64 x.n]).map nP=_
 simp [dig,fw,kg,nP]
instance:Inhabited aC:=⟨aM⟩
instance:Inhabited ar:=⟨⟨aJ,by decide,by decide⟩⟩
theorem ar.cells_inj (x y:ar) (h:vg.cells x=vg.cells y):x=y:=by
 have h1:Ev.dig x.d=Ev.dig y.d:=h
 have h2:x.d=y.d:=by
  have hi:Function.Injective (fun n:Nat=>AV.int .u8 (n:Int)):=fun a b hab=>Int.ofNat_inj.1 (by simpa using hab)
  exact (List.map_inj_right hi).1 h1
 cases x;cases y;cases h2;rfl
theorem aC.cells_inj (x y:aC) (h:Im.cells x=Im.cells y):x=y:=by
 have h1:Ev.dig x.d++[AV.int .i64 x.n]=Ev.dig y.d++[AV.int .i64 y.n]:=h
 obtain ⟨h2,h3⟩:=List.append_inj h1 (by simp [Ev.dig,x.h,y.h])
 have h4:x.d=y.d:=by
  have hi:Function.Injective (fun n:Nat=>AV.int .u8 (n:Int)):=fun a b hab=>Int.ofNat_inj.1 (by simpa using hab)
  exact (List.map_inj_right hi).1 h2
 have h5:x.n=y.n:=by simpa using h3
 cases x;cases y;cases h4;cases h5;rfl
set_option maxRecDepth 100000 in
theorem HK (hT:fS Tryz.prog N):gL Tryz.prog N 114 (oA Im df 96):=by
 refine Da pE hT ⟨_,Tryz.func114,rfl⟩ (fun v hv=>by rcases hv with rfl | rfl | rfl<;>kernel_rfl) fun blk cap d w hH hblk hsz=>?_
 refine AnyQ.slices_SortFunc_eq Tryz.laysSortI 33 (fun w=>Tryz.isAgg27 w) (fun w=>Tryz.sizeOf27 w) Im.enc Im.enc_len Im.one df pE 96 #[] blk 0 cap d w ?_ ?_ hH hblk hsz
 ·exact xx (jZ hT) Tryz.func96 rfl
 ·intro m os dk hs x y
  rw [CH,CH]
  exact callsIn_wide.1 (Dr x y _)
set_option maxRecDepth 100000 in
theorem HJ (hT:fS Tryz.prog N):gL Tryz.prog N 143 (oA vg (fun a b=>bQ a.d b.d) 81):=by
 refine Da n9 hT ⟨_,Tryz.func143,rfl⟩ (fun v hv=>by rcases hv with rfl | rfl | rfl<;>kernel_rfl) fun blk cap d w hH hblk hsz=>?_
 refine AnyQ.slices_SortFunc_eq Tryz.laysSortD 32 (fun w=>Tryz.isAgg25 w) (fun w=>Tryz.sizeOf25 w) vg.enc vg.enc_len vg.one (fun a b=>bQ a.d b.d) n9 81 #[] blk 0 cap d w ?_ ?_ hH hblk hsz
 ·exact xx (jZ hT) Tryz.func81 rfl
 ·intro m os dk hs x y
  rw [yV,yV]
  exact callsIn_wide.1 (Dq x.d y.d x.h y.h x.b y.b _)
end Go.Proofs.Ev
namespace Go.Proofs.Ev
open Go.Proofs
theorem ar.ext' {a b:ar} (h:a.d=b.d):a=b:=by cases a;cases b;cases h;rfl
theorem tF:∀(l:List ar) (a b:ar),bJ (l++[a,b])=if a.d=b.d then bJ (l++[a]) else bJ (l++[a])++[b]
 | [],a,b=>by
  show bJ [a,b]=if a.d=b.d then bJ [a] else bJ [a]++[b]
  simp only [bJ]
  split
  ·rename_i h;rw [ar.ext' h]
  ·rfl
 | x::l,a,b=>by
  have ih:=tF l a b
  obtain ⟨y,r,hr⟩:∃y r,l++[a]=y::r:=by cases l with
   | nil=>exact ⟨_,_,rfl⟩
   | cons y l=>exact ⟨_,_,rfl⟩
  have hr2:l++[a,b]=y::(r++[b]):=by
   have:l++[a,b]=(l++[a])++[b]:=by simp
   rw [this,hr];rfl
  rw [hr,hr2] at ih
  rw [List.cons_append,List.cons_append,hr,hr2,bJ,bJ,ih]
  by_cases h1:x.d=y.d<;>by_cases h2:a.d=b.d<;>simp [h1,h2]
theorem tG {l:List ar} {m:Nat} (h0:1≤m) (h:m<l.length):bJ (l.take (m+1))=if l[m].d=l[m-1].d then bJ (l.take m) else bJ (l.take m)++[l[m]]:=by
 obtain ⟨k,rfl⟩:∃k,m=k+1:=⟨m-1,by omega⟩
 have e1:l.take (k+1)=l.take k++[l[k]]:=by rw [List.take_add_one,List.getElem?_eq_getElem (by omega)];rfl
 have e2:l.take (k+1+1)=l.take k++[l[k],l[k+1]]:=by rw [List.take_add_one,List.getElem?_eq_getElem h,e1,List.append_assoc];rfl
 rw [e2,tF,e1]
 simp only [Nat.add_sub_cancel]
 by_cases hq:l[k].d=l[k+1].d
 ·rw [if_pos hq,if_pos hq.symm]
 ·rw [if_neg hq,if_neg (Ne.symm hq)]
def Dw:bD:=⟨fun _=>none,fun _=>false,fun _=>false,fun t=>if t=25 then some (List.replicate 32 (.int .u8)) else none⟩
theorem IQ (a b:List Nat) (ha:a.length=32) (hb:b.length=32):qK Tryz.prog Dw 25 (.agg (dig a)) (.agg (dig b))=some (decide (a=b)):=by
 have h1:=fE a;rw [ha] at h1
 have h2:=fE b;rw [hb] at h2
 simp only [qK,Dw,if_true,h1,h2,Bool.and_self,jq a b (by omega)]
def gJ (l:List ar) (m:Nat):List (List AV):=(bJ (l.take m)++l.drop (bJ (l.take m)).length).map ar.cells
theorem DC (l:List ar) {m:Nat} (hm:m≤l.length):(gJ l m).length=l.length:=by
 have:=(qT (l.take m)).1
 simp [gJ] at this ⊢
 omega
theorem qU (l:List ar) {m j:Nat} (hj:(bJ (l.take m)).length≤j) (h:j<l.length):(gJ l m)[j]?=some l[j].cells:=by
 unfold gJ
 rw [List.getElem?_map,List.getElem?_append_right hj,List.getElem?_drop,show (bJ (l.take m)).length+(j-(bJ (l.take m)).length)=j by omega,List.getElem?_eq_getElem h]
 rfl
theorem DD (l:List ar) {m:Nat} (hm:m<l.length) (hc:(bJ (l.take m)).length<l.length) (hn:bJ (l.take (m+1))=bJ (l.take m)++[l[m]]) :
 (gJ l m).set (bJ (l.take m)).length (dig l[m].d)=gJ l (m+1):=by
 unfold gJ
 rw [hn]
 generalize bJ (l.take m)=c at *
 rw [List.map_append,List.set_append_right _ _ (by simp),List.length_map,Nat.sub_self,List.drop_eq_getElem_cons hc,List.map_cons,List.set_cons_zero]
 simp
 rfl
theorem Gy {k n:Nat} (h:k<n):iC (.int .i64 (k:Int)) n=some k:=by
 unfold iC
 simp only
 rw [if_pos ⟨by omega,by omega⟩];simp
theorem C9 {b g len k:Nat} (h:k<len):dw Tryz.prog 34 (.sl b g 32 0 len) (some (.int .i64 (k:Int))) none none=some (.sl b g 32 k (len-k)):=by
 have hu:Program.underlying Tryz.prog 34=some (.slice 25):=by simp
 unfold dw
 simp only [hu,mD,if_true,bH,Gy (show k<len+1 by omega),Option.map_some,Nat.zero_add]
 rw [if_neg (by omega)]
theorem OD {b g len k:Nat} (h0:0<k) (h:k≤len):dw Tryz.prog 34 (.sl b g 32 0 len) none (some (.int .i64 (k:Int))) none=some (.sl b g 32 0 k):=by
 have hu:Program.underlying Tryz.prog 34=some (.slice 25):=by simp
 unfold dw
 simp only [hu,mD,if_true,bH,Gy (show k<len+1 by omega),Option.map_some,Nat.zero_add,Nat.sub_zero]
 rw [if_neg (by omega)]
set_option maxRecDepth 100000 in
set_option maxHeartbeats 2000000 in
theorem xp {base:Nat} {H:ae} {b g:Nat} {l:List ar} (hb:base≤b) (hg:H[b]?=some (.rows 32 g (l.map ar.cells))) (hl:l.length≤2^40) :
 dU Tryz.prog Dw base 144 [.sl b g 32 0 l.length] H fun v X=>v=.sl b g 32 0 (bJ l).length∧X=H.set b (.rows 32 g ((bJ l).map ar.cells++List.replicate (l.length-(bJ l).length) (dig aJ))):=by
 refine aj Tryz.func144 rfl rfl (by simp) (by kernel_rfl) ?_
 unfold Tryz.f144
 have hset:H.set b (.rows 32 g (l.map ar.cells))=H:=by
  apply List.ext_getElem?
  intro k
  by_cases hk:b=k
  ·subst hk
   rw [List.getElem?_set_self (List.getElem?_eq_some_iff.1 hg).1,hg]
  ·rw [List.getElem?_set_ne hk]
 have same:bJ l=l→l.length=(bJ l).length∧H=H.set b (.rows 32 g ((bJ l).map ar.cells++List.replicate (l.length-(bJ l).length) (dig aJ))):=by
  intro hc
  rw [hc]
  refine ⟨rfl,?_⟩
  rw [Nat.sub_self,List.replicate_zero,List.append_nil,hset]
 have hbin:∀(x y:ar) (neg:Bool),bP Tryz.prog Dw (if neg then .neq else .eql) 25 (.agg (dig x.d)) (.agg (dig y.d))=some (.bool (if neg then !decide (x.d=y.d) else decide (x.d=y.d))):=by
  intro x y neg
  have:=IQ x.d y.d x.h y.h
  cases neg<;>simp [bP,this]
 have hE:=fun x y=>hbin x y false
 have hN:=fun x y=>hbin x y true
 simp only [if_true,Bool.false_eq_true,if_false] at hE hN
 simp [aE]
 refine ⟨fun h2=>?_,fun h2=>?_⟩
 ·refine same ?_
  match l,h2 with
  | [],_=>rfl
  | [a],_=>rfl
  | a::b::l,h=>simp at h;omega
 have h2':2≤l.length:=by omega
 refine ay l.length (fun i s X=>s 0=.sl b g 32 0 l.length∧s 3=.int .i64 ((i:Int)+1)∧X=H∧i+1≤l.length∧bJ (l.take (i+1))=l.take (i+1)) ?_ ?_
 ·refine ⟨rfl,rfl,rfl,by omega,?_⟩
  match l with
  | []=>rfl
  | a::l=>rfl
 rintro i s X ⟨q0,q3,rfl,hil,hcl⟩ hi
 by_cases h:i+1<l.length
 ·have hi0:i<l.length:=by omega
  have r1:ax X b g 32 (i+1)=some (dig l[i+1].d):=by rw [gC hg];simp [h];rfl
  have r0:ax X b g 32 i=some (dig l[i].d):=by rw [gC hg];simp [hi0];rfl
  have hlt:(i:Int)+1<l.length:=by omega
  have w0:IntKind.i64.wrap (i:Int)=i:=iV (by omega)
  have w1:IntKind.i64.wrap ((i:Int)+1+1)=(i:Int)+1+1:=aO (by omega) (by omega)
  have d1:l[i+1].d.length=32:=l[i+1].h
  have d0:l[i].d.length=32:=l[i].h
  have t1:List.take 32 (dig l[i+1].d)=dig l[i+1].d:=List.take_of_length_le (by simp [dig,d1])
  have t0:List.take 32 (dig l[i].d)=dig l[i].d:=List.take_of_length_le (by simp [dig,d0])
  have hp:(0:Int)≤(i:Int)+1:=by omega
  have hil2:(i:Int)<l.length:=by omega
  have ht:=tG (l:=l) (m:=i+1) (by omega) h
  simp only [Nat.add_sub_cancel] at ht
  by_cases he:l[i+1].d=l[i].d
  ·rw [if_pos he,hcl] at ht
   have hle:(i:Int)+1≤l.length:=by omega
   have hne:¬(l.length=i+1):=by omega
   have sl1:=C9 (b:=b) (g:=g) h
   have hcast:((i+1:Nat):Int)=(i:Int)+1:=by omega
   rw [hcast] at sl1
   simp [q0,q3,hlt,r1,r0,hE,w0,d0,t0,hp,hil2,he,sl1]
   obtain ⟨K,hK⟩:∃K,K=i+1:=⟨_,rfl⟩
   have hKi:(i:Int)+1=(K:Int):=by omega
   rw [hKi]
   rw [←hK] at ht h ⊢
   have hb0:b<X.length:=(List.getElem?_eq_some_iff.1 hg).1
   have hKl:(bJ (l.take (K+1))).length=K:=by rw [ht,List.length_take];omega
   clear sl1 hcast w0 w1 hp hil2 hcl hlt
   rw [hKi] at q3
   refine ay l.length (fun j s Y=>s 0=.sl b g 32 0 l.length∧s 4=.sl b g 32 K (l.length-K)∧s 5=.int .i64 ((j:Int)+1)∧s 3=.int .i64 ((bJ (l.take (K+j+1))).length:Nat)∧Y=X.set b (.rows 32 g (gJ l (K+j+1)))∧K+j+1≤l.length∧(bJ (l.take (K+j+1))).length≤K+j∧0<(bJ (l.take (K+j+1))).length) ?_ ?_
   ·refine ⟨by simpa using q0,by simp,by simp,?_,?_,by omega,?_,?_⟩
    ·rw [Nat.add_zero,hKl];simpa using q3
    ·rw [Nat.add_zero]
     unfold gJ
     rw [hKl,ht,List.take_append_drop,hset]
    ·rw [Nat.add_zero,hKl];omega
    ·rw [Nat.add_zero,hKl];omega
   rintro j s Y ⟨q0,q4,q5,q3,rfl,hm,hc1,hc0⟩ hj
   have hX:(X.set b (.rows 32 g (gJ l (K+j+1))))[b]?=some (.rows 32 g (gJ l (K+j+1))):=by rw [List.getElem?_set_self hb0]
   obtain ⟨c,hcd⟩:∃c,c=(bJ (l.take (K+j+1))).length:=⟨_,rfl⟩
   rw [←hcd] at q3 hc1 hc0
   have hlk:((l.length-K:Nat):Int)=(l.length:Int)-K:=by omega
   by_cases hj2:j+1<l.length-K
   ·have hm2:K+j+1<l.length:=by omega
    have hm0:K+j<l.length:=by omega
    have r1:ax (X.set b (.rows 32 g (gJ l (K+j+1)))) b g 32 (K+(j+1))=some (dig l[K+j+1].d):=by
     rw [gC hX];exact qU l (by omega) hm2
    have r0:ax (X.set b (.rows 32 g (gJ l (K+j+1)))) b g 32 (K+j)=some (dig l[K+j].d):=by
     rw [gC hX];exact qU l (by omega) hm0
    have hlt:(j:Int)+1<((l.length-K:Nat):Int):=by omega
    have w0:IntKind.i64.wrap (j:Int)=j:=iV (by omega)
    have w1:IntKind.i64.wrap ((j:Int)+1+1)=(j:Int)+1+1:=aO (by omega) (by omega)
    have w2:IntKind.i64.wrap ((c:Int)+1)=(c:Int)+1:=aO (by omega) (by omega)
    have d1:l[K+j+1].d.length=32:=l[K+j+1].h
    have d0:l[K+j].d.length=32:=l[K+j].h
    have t1:List.take 32 (dig l[K+j+1].d)=dig l[K+j+1].d:=List.take_of_length_le (by simp [dig,d1])
    have t0:List.take 32 (dig l[K+j].d)=dig l[K+j].d:=List.take_of_length_le (by simp [dig,d0])
    have hp:(0:Int)≤(j:Int)+1:=by omega
    have hjl:(j:Int)<((l.length-K:Nat):Int):=by omega
    have ht:=tG (l:=l) (m:=K+j+1) (by omega) hm2
    simp only [Nat.add_sub_cancel] at ht
    have hcl:(c:Int)<l.length:=by omega
    by_cases he:l[K+j+1].d=l[K+j].d
    ·rw [if_pos he] at ht
     have hR:gJ l (K+j+1+1)=gJ l (K+j+1):=by unfold gJ;rw [ht]
     simp [q0,q3,q4,q5,hlt,r1,r0,hN,w0,w1,d0,t0,hp,hjl,he]
     rw [show K+(j+1)+1=K+j+1+1 by omega,ht,hR,←hcd]
     exact ⟨by omega,rfl,rfl,by omega,by omega,by omega⟩
    ·rw [if_neg he] at ht
     have hcl2:c<l.length:=by omega
     have hst:ao Tryz.prog base (X.set b (.rows 32 g (gJ l (K+j+1)))) 25 (.ptr b g 32 c 0) (.agg (dig l[K+j+1].d))=some (X.set b (.rows 32 g (gJ l (K+j+1+1)))):=by
      have hrow:(gJ l (K+j+1))[c]?=some (dig l[c].d):=qU l (by omega) hcl2
      have hl32:(dig l[c].d).length=32:=by simp [dig,l[c].h]
      have hlf:∀y∈dig l[K+j+1].d,y.leaf=true:=by intro y hy;obtain ⟨n,_,rfl⟩:=List.mem_map.1 hy;rfl
      have hcs:=DD l hm2 (by rw [←hcd];exact hcl2) ht
      rw [←hcd] at hcs
      have hdr:List.drop 32 (dig l[c].d)=[]:=List.drop_eq_nil_of_le (by omega)
      have hd32:(dig l[K+j+1].d).length=32:=by simp [dig,d1]
      unfold ao
      simp only [mD,AV.cells,hX,hrow,hl32,hd32]
      rw [if_pos ⟨hb,trivial,by rw [List.all_eq_true];exact hlf⟩,if_pos ⟨trivial,trivial⟩,if_pos (by omega),List.take_zero,List.nil_append,Nat.zero_add,hdr,List.append_nil,hcs,List.set_set]
     simp [q0,q3,q4,q5,hlt,r1,r0,hN,w0,w1,w2,d1,d0,t1,t0,hp,hjl,he,hcl,hst]
     rw [show K+(j+1)+1=K+j+1+1 by omega,ht,List.length_append,←hcd]
     exact ⟨by omega,by simp,rfl,by omega,by simp;omega,by simp⟩
   ·have hend:K+j+1=l.length:=by omega
    have hlt:¬((j:Int)+1<((l.length-K:Nat):Int)):=by omega
    have htl:l.take (K+j+1)=l:=List.take_of_length_le (by omega)
    rw [htl] at hcd
    have hcn:c<l.length:=by omega
    have sl1:=C9 (b:=b) (g:=g) hcn
    have sl2:=OD (b:=b) (g:=g) hc0 (Nat.le_of_lt hcn)
    have hcr:gJ l (K+j+1)=(bJ l++l.drop c).map ar.cells:=by unfold gJ;rw [htl,←hcd]
    have hclr:oS Tryz.prog base (X.set b (.rows 32 g (gJ l (K+j+1)))) 34 (.sl b g 32 c (l.length-c))=some (X.set b (.rows 32 g ((bJ l).map ar.cells++List.replicate (l.length-c) (dig aJ)))):=by
     have hu:Program.underlying Tryz.prog 34=some (.slice 25):=by simp
     have hz:aN Tryz.prog 25=some (.agg (dig aJ)):=by simp
     have hrl:=DC l hm
     unfold oS
     simp only [hu,hX,mD,hz,AV.cells]
     rw [if_pos ⟨hb,trivial,trivial,trivial,by decide,by omega,by omega,by decide⟩,List.set_set,hcr,List.map_append,List.take_left' (by rw [List.length_map];exact hcd.symm)]
    simp [q0,q3,q4,q5,hlt,sl1,sl2,hclr,zP]
    exact ⟨hcd,by rw [hcd]⟩
  ·rw [if_neg he,hcl] at ht
   simp [q0,q3,hlt,r1,r0,hE,w0,w1,d1,d0,t1,t0,hp,hil2,he]
   refine ⟨by omega,by omega,?_⟩
   rw [ht,List.take_add_one (i:=i+1),List.getElem?_eq_getElem h];rfl
 ·have hlt:¬((i:Int)+1<l.length):=by omega
  have hc:bJ l=l:=by rw [List.take_of_length_le (by omega)] at hcl;exact hcl
  simp [q0,q3,hlt]
  exact same hc
noncomputable def nG (base:Nat) (args:List AV) (H:ae):Option (AV×ae):=rP Tryz.prog Dw 144 base args H
theorem AX {base:Nat} {H:ae} {b g:Nat} {l:List ar} (hb:base≤b) (hg:H[b]?=some (.rows 32 g (l.map ar.cells))) (hl:l.length≤2^40) :
 nG base [.sl b g 32 0 l.length] H=some (.sl b g 32 0 (bJ l).length,H.set b (.rows 32 g ((bJ l).map ar.cells++List.replicate (l.length-(bJ l).length) (dig aJ)))):=tL (xp hb hg hl)
theorem yR (base:Nat) (H:ae):nG base [.lst [] true] H=some (.lst [] true,H):=by
 refine tL (aj Tryz.func144 rfl rfl (by simp) (by kernel_rfl) ?_)
 unfold Tryz.f144
 simp [aE]
theorem AQ {N:gH} (hT:fS Tryz.prog N):Dw.Sound Tryz.prog N:={
 fits:=⟨fun t ks h=>by
  change (if t=25 then some (List.replicate 32 (LK.int .u8)) else none)=some ks at h
  split at h
  ·rename_i ht;subst ht;cases h;exact ⟨by kernel_rfl,by kernel_rfl,by kernel_rfl⟩
  ·cases h⟩
 mixed:=by kernel_rfl
 tag:=hT
 names:=qm
 prim _ _ h:=by cases h }
theorem AY {N:gH} (hT:fS Tryz.prog N):gL Tryz.prog N 144 nG :=
 zf (AQ hT) ⟨_,Tryz.func144,rfl⟩
end Go.Proofs.Ev
