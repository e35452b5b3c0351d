/- Part 21 of the proof that quiltlaw38.BlameHistory returns true: no statement of its own. -/
import Derived.Test.YtkicailcmamaiaaGreatDoorH13
import Derived.Test.YtkicailcmamaiaaGreatDoorH9
import Derived.Lib.Overlaps
import Derived.Shelf.RegionOpen
import Derived.Test.YtkicailcmamaiaaGreatDoorH0
import Derived.Test.YtkicailcmamaiaaGreatDoorH20
set_option linter.all false
namespace Go.Proofs.Ev
open Go.Proofs
variable {N:gH} {φ:fJ} {H:ae} {w w':World}
theorem n5 {dT sT ty:TypeId} (hu:Program.underlying Tryz.prog dT=some (.slice 96)) {k o dl dc sl sc:Nat} {a:Addr} {X:List Value} (hX:X.length=37) (hm:Nat.min sl dl=1) (hl:∀j v,X[j]?=some v→w.cell? (a.add j)=some v) (h1:∀v∈X,v.oneCell'=true)
 {cur:Array Value} {T:TypeId} {fr:Nat×Nat} (hd:w.heap[k]?=some (.cells cur T fr)) (hf:o+37≤cur.size) (hfr:lY fr cur.size) :
 (Builtin.copy_ #[dT,sT] ty #[.slice (some ⟨k,o,none⟩) dl dc,.slice (some a) sl sc]).run Tryz.prog w=.ok (.int .i64 1) (bA w k (.cells (lS cur o X) T fr)):=by
 have hld:=run_loadCells_list (P:=Tryz.prog) (w:=w) a X hl
 have hst:=ej (P:=Tryz.prog) k o T fr X 0 cur w hd (by omega) hfr h1
 rw [Nat.add_zero] at hst
 rw [hX] at hld
 have hz:∀w0:World,(sizeOf 96).run Tryz.prog w0=.ok 37 w0:=Tryz.sizeOf96
 simp [Builtin.copy_,run_underlying hu,Builtin.lenOf,hm,hz,Builtin.firstCells,hld,hst,goInt]
theorem E2 {P:Program} (tS tR e:TypeId) (ht:P.underlying tS=some (.slice e)) (size:Nat) (hz:∀w,(sizeOf e).run P w=.ok size w) {a b:Addr} {la ca lb cb:Nat} (hne:a.block≠b.block) {tA tB:TypeId} {kA kB:Nat} (hsa:w.shape? a.block=some (tA,kA)) (hsb:w.shape? b.block=some (tB,kB)) (hkA:kA≠0) (hfb:w.frozen? b=false) (hfe:w.frozen? { block:=b.block,off:=kB }=false) :
 (Extern.SlicesOverlaps.overlaps #[tS,tS] #[tR] #[.slice (some a) la ca,.slice (some b) lb cb]).run P w=.ok (.bool false) w:=by
 have hnb':(a.block==b.block)=false:=by simpa using hne
 delta Extern.SlicesOverlaps.overlaps
 delta Extern.SlicesOverlaps.overlaps.match_4
 dsimp -zeta only
 rw [dif_pos (show (#[Value.slice (some a) la ca,Value.slice (some b) lb cb]:Array Value).size=2 from rfl)]
 by_cases h0:la=0∨lb=0∨size=0
 ·simp [Array.getLit,run_underlying ht,hz,h0]
 ·cases kA with
  | zero=>exact absurd rfl hkA
  | succ kA =>
   cases hfa:w.frozen? a<;>cases hfe2:w.frozen? { block:=a.block,off:=kA+1 } <;>
    simp [Array.getLit,run_underlying ht,hz,h0,hnb',frozen,noView,viewAt,mayBeOne,stringish,shape,Sem.run,hsa,hsb,hfa,hfb,hfe,hfe2]
set_option maxRecDepth 100000 in
set_option maxHeartbeats 4000000 in
theorem Ds {bs:Nat} {cs:Array Value} {T:TypeId} {fr:Nat×Nat} {A B:List Value} {av:Addr} {capv:Nat} {Tv:TypeId} {cv:Array Value} {fv:Nat×Nat}
 (hs:w.heap[bs]?=some (.cells cs T fr)) (hv:w.heap[av.block]?=some (.cells cv Tv fv)) (hsp:av.spot=none) (hne:av.block≠bs)
 (hA:A.length=37) (hA1:∀v∈A,v.oneCell'=true) (hAc:∀(j:Nat) (v:Value),A[j]?=some v→cs[j]?=some v)
 (hB:B.length=37) (hB1:∀v∈B,v.oneCell'=true) (hBc:∀(j:Nat) (v:Value),B[j]?=some v→cv[av.off+j]?=some v) :
 CallsIn (Fw none) 0 Tryz.prog 47 #[.slice (some ⟨bs,0,none⟩) 1 1,.int .i64 0,.slice (some av) 1 capv] w
  fun e w2=>∃newCap Z,2≤newCap∧Z.size=newCap*37∧e=.returned (.slice (some ⟨w.heap.size,0,none⟩) 2 newCap)∧w2.heap.size=w.heap.size+1∧w2.heap[w.heap.size]?=some (.cells (lS (lS Z 0 B) 37 A) 96 (0,0))∧eY w w2∧∀k,k<w.heap.size→w2.heap[k]?=w.heap[k]?:=by
 have hbs:bs<w.heap.size:=(Array.getElem?_eq_some_iff.1 hs).1
 have hbv:av.block<w.heap.size:=(Array.getElem?_eq_some_iff.1 hv).1
 obtain ⟨bv,ov,spv⟩:=av
 simp only at hsp hv hne hbv hBc
 subst hsp
 have hadd:∀b o j:Nat,((⟨b,o,none⟩:Addr).add j)=⟨b,o+j,none⟩:=fun b o j=>by by_cases hj:j=0<;>simp [Addr.add,hj]
 have mixed:Tryz.prog.follows .mixedOrders=true:=by kernel_rfl
 refine callsIn_of_wp Tryz.func47 rfl trivial ?_ rfl
 have hn:Tryz.f47.ntmps=95:=rfl
 simp only [hn,List.size_toArray,List.length_cons,List.length_nil,Nat.reduceAdd,Nat.reduceSub,Array.replicate_succ,Array.replicate_zero,List.push_toArray,List.append_toArray,List.nil_append,List.cons_append]
 gi_wp2
 have hcut:2≤(Question.appendCap 2 1 96).cut (w.tape w.drawn (Question.appendCap 2 1 96)):=by simp [Question.cut]
 generalize (Question.appendCap 2 1 96).cut (w.tape w.drawn (Question.appendCap 2 1 96))=newCap at *
 obtain ⟨Zv,hZv,hZs0⟩:∃Zv:Array Value,Zv=(List.replicate 32 (Value.int .u8 0)++[Value.string ⟨#[]⟩,Value.string ⟨#[]⟩,Value.int .i64 0,Value.slice none 0 0,Value.slice none 0 0]).toArray∧Zv.size=37:=⟨_,rfl,rfl⟩
 simp only [List.replicate_succ,List.replicate_zero,List.nil_append,List.cons_append] at hZv
 rw [←hZv]
 obtain ⟨Z,hZ⟩:∃Z,Z=Builtin.zeroCells Zv 2++Builtin.zeroCells Zv (newCap-2):=⟨_,rfl⟩
 have hZs:Z.size=newCap*37:=by rw [hZ];simp [Builtin.zeroCells,hZs0];omega
 rw [←hZ]
 clear hZ hZv hZs0 Zv
 generalize hW1:(w.alloc (.cells Z 96 (0,0))).drew=W1
 have hg1:W1.heap[w.heap.size]?=some (.cells Z 96 (0,0)):=by rw [←hW1];exact bo (w:=w)
 have ho1:∀k,k<w.heap.size→W1.heap[k]?=w.heap[k]?:=fun k hk=>by rw [←hW1];exact aY (w:=w) hk
 have hsz1:W1.heap.size=w.heap.size+1:=by rw [←hW1];simp [World.drew]
 have he1:eY w W1:=by rw [←hW1];exact .refl
 have hs1:=(ho1 bs hbs).trans hs
 have hv1:=(ho1 bv hbv).trans hv
 have hC1:=n5 (w:=W1) (dT:=23) (sT:=22) (ty:=3) Tryz.underlying23 (k:=w.heap.size) (o:=0) (dl:=2) (dc:=newCap) (sl:=1) (sc:=capv) (a:=⟨bv,ov,none⟩) hB rfl (fun j v hj=>by
  rw [hadd];simp only [World.cell?,hv1];exact hBc j v hj) hB1 hg1 (by omega) (.zero _)
 rw [hC1]
 simp only [Result.andThen]
 generalize hW2:bA W1 w.heap.size (.cells (lS Z 0 B) 96 (0,0))=W2
 have hZ2:(lS Z 0 B).size=Z.size:=fm (by omega)
 have hg2:W2.heap[w.heap.size]?=some (.cells (lS Z 0 B) 96 (0,0)):=by rw [←hW2];exact cI (by omega)
 have ho2:∀k,k<w.heap.size→W2.heap[k]?=w.heap[k]?:=fun k hk=>by rw [←hW2];exact (bm (by omega)).trans (ho1 k hk)
 have hsz2:W2.heap.size=w.heap.size+1:=by rw [←hW2];simpa using hsz1
 have he2:eY w W2:=by rw [←hW2];exact he1
 have hs2:=(ho2 bs hbs).trans hs
 have hC2:=n5 (w:=W2.drew) (dT:=23) (sT:=23) (ty:=3) Tryz.underlying23 (k:=w.heap.size) (o:=37) (dl:=1) (dc:=newCap-1) (sl:=1) (sc:=1) (a:=⟨bs,0,none⟩) hA rfl (fun j v hj=>by
  have hs2':W2.drew.heap[bs]?=some (.cells cs T fr):=hs2
  rw [hadd];simp only [World.cell?,hs2',Nat.zero_add];exact hAc j v hj) hA1 hg2 (by omega) (.zero _)
 have hle:(1:Int)≤newCap:=by omega
 clear hC1 hW1 hW2
 gi_wp2
 gi_region
 gi_wp2
 go_ret
 refine ⟨newCap,Z,hcut,hZs,rfl,by simpa using hsz2,cI (by show w.heap.size<W2.heap.size;omega),he2,fun k hk=>(bm (by omega)).trans (ho2 k hk)⟩
set_option maxRecDepth 100000 in
set_option maxHeartbeats 4000000 in
theorem Dt {bs cap:Nat} {cs:Array Value} {T:TypeId} {fr:Nat×Nat} {A B:List Value} {av:Addr} {capv:Nat} {Tv:TypeId} {cv:Array Value} {fv:Nat×Nat}
 (hs:w.heap[bs]?=some (.cells cs T fr)) (hv:w.heap[av.block]?=some (.cells cv Tv fv)) (hsp:av.spot=none) (hne:av.block≠bs) (hcap:2≤cap) (hfit:cap*37≤cs.size) (hfr:lY fr (cs.size+1))
 (hA:A.length=37) (hA1:∀v∈A,v.oneCell'=true) (hAc:∀(j:Nat) (v:Value),A[j]?=some v→cs[j]?=some v)
 (hB:B.length=37) (hB1:∀v∈B,v.oneCell'=true) (hBc:∀(j:Nat) (v:Value),B[j]?=some v→cv[av.off+j]?=some v) :
 CallsIn (Fw none) 0 Tryz.prog 47 #[.slice (some ⟨bs,0,none⟩) 1 cap,.int .i64 0,.slice (some av) 1 capv] w
  fun e w2=>e=.returned (.slice (some ⟨bs,0,none⟩) 2 cap)∧w2=bA w.drew bs (.cells (lS (lS cs 37 A) 0 B) T fr):=by
 have hbs:bs<w.heap.size:=(Array.getElem?_eq_some_iff.1 hs).1
 have hbv:av.block<w.heap.size:=(Array.getElem?_eq_some_iff.1 hv).1
 have hfr0:lY fr cs.size:=fun off h=>hfr off (by omega)
 obtain ⟨bv,ov,spv⟩:=av
 simp only at hsp hv hne hbv hBc
 subst hsp
 have hadd:∀b o j:Nat,((⟨b,o,none⟩:Addr).add j)=⟨b,o+j,none⟩:=fun b o j=>by by_cases hj:j=0<;>simp [Addr.add,hj]
 have mixed:Tryz.prog.follows .mixedOrders=true:=by kernel_rfl
 have hcvz:cv.size≠0:=by
  have h0:B[0]?=some B[0]:=List.getElem?_eq_getElem (by omega)
  have:=(Array.getElem?_eq_some_iff.1 (hBc 0 _ h0)).1
  omega
 have hO:=E2 (P:=Tryz.prog) (w:=w) 22 4 96 Tryz.underlying22 37 Tryz.sizeOf96 (a:=⟨bv,ov,none⟩) (b:=⟨bs,37,none⟩) (la:=1) (ca:=capv) (lb:=1) (cb:=cap-1) hne (tA:=Tv) (tB:=T) (kA:=cv.size) (kB:=cs.size) (by simp [World.shape?,hv]) (by simp [World.shape?,hs]) hcvz
  (by simp only [World.frozen?,hs];rw [Bool.eq_false_iff];intro hh;exact hfr 37 (by omega) (by simpa using hh)) (by simp only [World.frozen?,hs];rw [Bool.eq_false_iff];intro hh;exact hfr cs.size (by omega) (by simpa using hh))
 have hC1:=n5 (w:=w.drew) (dT:=23) (sT:=23) (ty:=3) Tryz.underlying23 (k:=bs) (o:=37) (dl:=1) (dc:=cap-1) (sl:=2) (sc:=cap) (a:=⟨bs,0,none⟩) hA rfl (fun j v hj=>by
  have hs':w.drew.heap[bs]?=some (.cells cs T fr):=hs
  rw [hadd];simp only [World.cell?,hs',Nat.zero_add];exact hAc j v hj) hA1 hs (by omega) hfr0
 generalize hW1:bA w.drew bs (.cells (lS cs 37 A) T fr)=W1 at hC1
 have hZ1:(lS cs 37 A).size=cs.size:=fm (by omega)
 have hg1:W1.heap[bs]?=some (.cells (lS cs 37 A) T fr):=by rw [←hW1];exact cI hbs
 have hv1:W1.heap[bv]?=some (.cells cv Tv fv):=by rw [←hW1];exact (bm (Ne.symm hne)).trans hv
 have hC2:=n5 (w:=W1) (dT:=23) (sT:=22) (ty:=3) Tryz.underlying23 (k:=bs) (o:=0) (dl:=2) (dc:=cap) (sl:=1) (sc:=capv) (a:=⟨bv,ov,none⟩) hB rfl (fun j v hj=>by
  rw [hadd];simp only [World.cell?,hv1];exact hBc j v hj) hB1 hg1 (by omega) (by rw [hZ1];exact hfr0)
 have hle:¬((cap:Int)<2):=by omega
 have hle2:(2:Int)≤cap:=by omega
 refine callsIn_of_wp Tryz.func47 rfl trivial ?_ rfl
 have hn:Tryz.f47.ntmps=95:=rfl
 simp only [hn,List.size_toArray,List.length_cons,List.length_nil,Nat.reduceAdd,Nat.reduceSub,Array.replicate_succ,Array.replicate_zero,List.push_toArray,List.append_toArray,List.nil_append,List.cons_append]
 gi_wp2
 rw [run_callFunc_extern Tryz.func87 (by kernel_rfl) (by kernel_rfl) (by kernel_rfl) (e:=Extern.SlicesOverlaps.overlaps #[22,22] #[4]) (by kernel_rfl),hO]
 simp only [Result.andThen]
 gi_wp2
 gi_region
 gi_wp2
 go_ret
 exact ⟨rfl,by rw [←hW1,oC]⟩
theorem uM {n:Nat} {φ:fJ} {w:World} {cs:Array Value}:∀{row:List AV} {o:Nat},(∀(j:Nat) (v:AV),row[j]?=some v→v.leaf=true∧∃V,cs[o+j]?=some V∧RV φ n w v V)→
 ∃A:List Value,A.length=row.length∧(∀v∈A,v.oneCell'=true)∧(∀(j:Nat) (v:Value),A[j]?=some v→cs[o+j]?=some v)∧∀(j:Nat) (v:AV),row[j]?=some v→∃V,A[j]?=some V∧RV φ n w v V
 | [],o,_=>⟨[],rfl,by simp,by simp,by simp⟩
 | x::row,o,h=>by
  obtain ⟨hl,V,h1,h2⟩:=h 0 x rfl
  obtain ⟨A,a1,a2,a3,a4⟩:=uM (row:=row) (o:=o+1) fun j v hj=>by
   have:=h (j+1) v hj
   rwa [show o+(j+1)=o+1+j by omega] at this
  refine ⟨V::A,by simp [a1],fun v hv=>?_,fun j v hj=>?_,fun j v hj=>?_⟩
  ·rcases List.mem_cons.1 hv with rfl | hv
   ·exact h2.oneCell hl
   ·exact a2 v hv
  ·cases j with
   | zero=>simp at hj;subst hj;simpa using h1
   | succ j=>rw [show o+(j+1)=o+1+j by omega];exact a3 j v hj
  ·cases j with
   | zero=>simp at hj;subst hj;exact ⟨V,rfl,h2⟩
   | succ j=>exact a4 j v hj
theorem An {n:Nat} {Z:Array Value} {A B:List Value} {r q:List AV} (hZ:2*37≤Z.size) (hr:r.length=37) (hq:q.length=37) (hA:A.length=37) (hB:B.length=37) {C:Array Value} (hC:C.size=Z.size)
 (c0:∀j,j<37→C[j]?=B[j]?) (c1:∀j,j<37→C[37+j]?=A[j]?)
 (rB:∀(j:Nat) (v:AV),r[j]?=some v→v.leaf=true∧∃V,B[j]?=some V∧RV φ n w v V) (rA:∀(j:Nat) (v:AV),q[j]?=some v→v.leaf=true∧∃V,A[j]?=some V∧RV φ n w v V):cE φ n w 37 [r,q] C:=by
 refine ⟨by rw [hC];exact hZ,fun i row hi=>?_⟩
 match i,hi with
 | 0,hi =>
  simp at hi;subst hi
  refine ⟨hr,fun j v hj=>?_⟩
  obtain ⟨a,V,b,c⟩:=rB j v hj
  have:=bh hj
  exact ⟨a,V,by rw [Nat.zero_mul,Nat.zero_add,c0 j (by omega)];exact b,c⟩
 | 1,hi =>
  simp at hi;subst hi
  refine ⟨hq,fun j v hj=>?_⟩
  obtain ⟨a,V,b,c⟩:=rA j v hj
  have:=bh hj
  exact ⟨a,V,by rw [Nat.one_mul,c1 j (by omega)];exact b,c⟩
 | i+2,hi=>simp at hi
def Ma (base:Nat) (args:List AV) (H:ae):Option (AV×ae) :=
 match args with
 | [.nils,.int .i64 0,.lst [r] _]=>if r.length=37 then some (.sl H.length 0 37 0 1,H++[.rows 37 0 [r]]) else none
 | [.sl b g 37 0 1,.int .i64 0,.lst [r] _] =>
  match H[b]? with
  | some (.rows 37 g' [q])=>if base≤b∧g=g'∧r.length=37 then some (.sl b (4*g'+4) 37 0 2,H.set b (.rows 37 (4*g'+4) [r,q])) else none
  | _=>none
 | _=>none
theorem Fb {α β:Type} {R:α→β→Prop} {a b c:α} {Vs:Array β} (h:kF R [a,b,c] Vs.toList):∃X Y Z,Vs=#[X,Y,Z]∧R a X∧R b Y∧R c Z:=by
 obtain ⟨l⟩:=Vs
 cases h with
 | cons h1 t =>
  cases t with
  | cons h2 t =>
   cases t with
   | cons h3 t =>
    cases t
    exact ⟨_,_,_,rfl,h1,h2,h3⟩
theorem I3 (base:Nat) (H:ae) (r:List AV) (x:Bool) (hr:r.length=37):dU Tryz.prog Dv base 47 [.nils,.int .i64 0,.lst [r] x] H fun v X=>v=.sl H.length 0 37 0 1∧X=H++[.rows 37 0 [r]]:=by
 refine aj Tryz.func47 rfl rfl (by simp) (by kernel_rfl) ?_
 unfold Tryz.f47
 have ha:=ll (P:=Tryz.prog) (base:=base) (ts:=#[23,22]) (e:=96) (e':=96) (by simp) (by simp) J9 Lo (by simp [show aJ.length=32 by decide]) (by decide) H (x:=x) hr (by decide)
 have hs:dw Tryz.prog 23 (.lst [] true) (some (.int .i64 0)) none none=some (.lst [] true):=by kernel_rfl
 simp [aE,ha,hs,AV.denil]
theorem LZ (hT:fS Tryz.prog N):gL Tryz.prog N 47 Ma:=by
 refine ⟨⟨_,Tryz.func47,rfl⟩,fun base args H v H' h φ w Vs hb hH ht=>?_⟩
 unfold Ma at h
 split at h
 ·rename_i r x
  split at h
  ·rename_i hr
   cases h
   obtain ⟨n,v1,X,h1,rfl,rfl⟩:=I3 base H r x hr
   exact ((qO (jZ hT) n).2.2.2.2.1 base _ _ H _ _ h1).2 hb hH ht
  ·cases h
 ·rename_i b g r x
  split at h
  ·rename_i g' q hblk
   split at h
   ·rename_i hc
    obtain ⟨hbb,rfl,hr⟩:=hc
    cases h
    obtain ⟨X,Y,V,rfl,h1,h2,h3⟩:=Fb ht
    obtain ⟨L,cs,T,fr,e1,e2,e3,e4,e5,e6⟩:=hH.rows _ _ _ _ hblk
    have hq:=(e6.2 0 q rfl).1
    obtain ⟨A,a1,a2,a3,a4⟩:=uM (row:=q) (o:=0) (cs:=cs) (φ:=φ) (n:=H.length) (w:=w) fun j v hj=>by
     obtain ⟨x1,V,x2,x3⟩:=(e6.2 0 q rfl).2 j v hj
     exact ⟨x1,V,by simpa using x2,x3⟩
    simp only [Nat.zero_add] at a3
    cases h2
    cases h1 with
    | sl hbn hcap hh =>
     rename_i cap a
     obtain ⟨ha,hfit⟩:=(hh L e1).2 e2.symm
     simp only [Nat.zero_mul,Nat.zero_add] at ha hfit
     subst ha
     have hH':=hH
     cases h3 with
     | lst Us esz hlen hcv he hbv hrv =>
      rename_i bv lv capv
      have hl1:lv=1:=hlen
      subst hl1
      obtain ⟨cb,off,rfl,hrow⟩:=hbv (by simp)
      obtain ⟨hre,hcell⟩:=hrow 0 r rfl
      have hez:esz=37:=by rw [←hre];exact hr
      obtain ⟨c0,hc0⟩:∃v,r[0]?=some v:=⟨r[0]'(by omega),List.getElem?_eq_getElem _⟩
      obtain ⟨_,hnl,hw0⟩:=hcell 0 c0 hc0
      have hne:cb≠L.cb:=fun h=>hnl.1 b L e1 h.symm
      obtain ⟨cv,Tv,fv,hv⟩:∃cv Tv fv,w.heap[cb]?=some (.cells cv Tv fv):=by
       simp only [World.cell?] at hw0
       cases hg:w.heap[cb]? with
       | none=>rw [hg] at hw0;cases hw0
       | some o =>
        rw [hg] at hw0
        cases o with
        | cells c T fr=>exact ⟨c,T,fr,rfl⟩
        | _=>cases hw0
      obtain ⟨B,b1,b2,b3,b4⟩:=uM (row:=r) (o:=off) (cs:=cv) (φ:=φ) (n:=H.length) (w:=w) fun j v hj=>by
       obtain ⟨x1,_,x2⟩:=hcell j v hj
       simp only [World.cell?,hv,Nat.zero_mul,Nat.add_zero] at x2
       exact ⟨x1,_,x2,hrv 0 r rfl j v hj⟩
      have rB:∀(j:Nat) (v:AV),r[j]?=some v→v.leaf=true∧∃V,B[j]?=some V∧RV φ H.length w v V:=fun j v hj=>⟨(hcell j v hj).1,b4 j v hj⟩
      have rA:∀(j:Nat) (v:AV),q[j]?=some v→v.leaf=true∧∃V,A[j]?=some V∧RV φ H.length w v V:=fun j v hj=>⟨((e6.2 0 q rfl).2 j v hj).1,a4 j v hj⟩
      have hcs:37≤cs.size:=by have:=e6.1;simpa using this
      have hone:((⟨cb,off,none⟩:Addr)).spot=none:=rfl
      by_cases hc2:2≤cap
      ·refine (Dt (bs:=L.cb) (cap:=cap) (av:=⟨cb,off,none⟩) (capv:=capv) e3 hv rfl hne hc2 (by rw [e4];exact hfit) (e5.2.2 (by decide)) (by omega) a2 a3 (by omega) b2 b3).mono ?_
       rintro e w2 ⟨rfl,rfl⟩
       have hz1:(lS cs 37 A).size=cs.size:=fm (by have:=Nat.mul_le_mul_right 37 hc2;omega)
       have hz2:(lS (lS cs 37 A) 0 B).size=cs.size:=by rw [fm (by omega),hz1]
       have h74:2*37≤cs.size:=by have:=Nat.mul_le_mul_right 37 hc2;omega
       obtain ⟨r1,r2⟩:=hH.drew.regen e1 (g':=4*g+4) (by omega) (T:=T) (fr:=fr) (fun r hr=>by rw [show w.drew.heap=w.heap from rfl,e3] at hr;cases hr) (by rw [hz2];exact e4) ⟨by rw [hz2];exact e5.1,⟨fun h=>by omega,fun h=>by omega⟩,fun h=>by rw [hz2];exact e5.2.2 h⟩
        (An (Z:=cs) (A:=A) (B:=B) h74 hr hq (by omega) (by omega) hz2 (fun j hj=>by rw [kz (by omega),if_pos (by omega)];simp) (fun j hj=>by rw [kz (by omega),if_neg (by omega),kz (by omega),if_pos (by omega)];simp) (fun j v hj=>by obtain ⟨x,V,y,z⟩:=rB j v hj;exact ⟨x,V,y,z.mono .drew⟩) (fun j v hj=>by obtain ⟨x,V,y,z⟩:=rA j v hj;exact ⟨x,V,y,z.mono .drew⟩))
       refine ⟨_,_,rfl,?_,r1,by simpa using bZ.trans bZ.drew r2,fun k hk=>List.getElem?_set_ne (by omega)⟩
       refine .sl (by simpa using hbn) hc2 fun L' hL'=>?_
       simp only [bE,if_true,Option.some.injEq] at hL'
       subst hL'
       exact ⟨Nat.le_refl _,fun _=>⟨by simp,by simpa using hfit⟩⟩
      ·have hc1:cap=1:=by omega
       subst hc1
       refine (Ds (bs:=L.cb) (av:=⟨cb,off,none⟩) (capv:=capv) e3 hv rfl hne (by omega) a2 a3 (by omega) b2 b3).mono ?_
       rintro e w2 ⟨newCap,Z,hn2,hZ,rfl,k1,k2,k4,k3⟩
       have h74:2*37≤Z.size:=by have:=Nat.mul_le_mul_right 37 hn2;omega
       have hz1:(lS Z 0 B).size=Z.size:=fm (by omega)
       have hz2:(lS (lS Z 0 B) 37 A).size=Z.size:=by rw [fm (by omega),hz1]
       obtain ⟨r1,r2⟩:=hH.move e1 (g':=4*g+4) (by omega) (T:=96) (fr:=(0,0)) (.zero (by omega))
        (An (Z:=Z) (A:=A) (B:=B) h74 hr hq (by omega) (by omega) hz2 (fun j hj=>by rw [kz (by omega),if_neg (by omega),kz (by omega),if_pos (by omega)];simp) (fun j hj=>by rw [kz (by omega),if_pos (by omega)];simp) rB rA)
       have hk:∀(cb:Nat) (o:Obj),(w.alloc (.cells (lS (lS Z 0 B) 37 A) 96 (0,0))).heap[cb]?=some o→w2.heap[cb]?=some o:=by
        intro cb o ho
        have hlt:=(Array.getElem?_eq_some_iff.1 ho).1
        simp only [World.alloc,Array.size_push] at hlt
        rcases Nat.lt_or_ge cb w.heap.size with h | h
        ·rw [aY h] at ho;rw [k3 cb h];exact ho
        ·have:cb=w.heap.size:=by omega
         subst this
         rw [bo] at ho;rw [k2];exact ho
       have hs:(w.alloc (.cells (lS (lS Z 0 B) 37 A) 96 (0,0))).heap.size≤w2.heap.size:=by rw [k1];simp
       refine ⟨_,_,rfl,?_,r1.keeps hs hk (k4),by simpa using r2.trans (bZ.keeps hs hk k4),fun k hk=>List.getElem?_set_ne (by omega)⟩
       refine .sl (by simpa using hbn) hn2 fun L' hL'=>?_
       simp only [bE,if_true,Option.some.injEq] at hL'
       subst hL'
       exact ⟨Nat.le_refl _,fun _=>⟨by simp,by simp [hz2,hZ]⟩⟩
   ·cases h
  ·cases h
 ·cases h
end Go.Proofs.Ev
namespace Go.Proofs.Ev
inductive PH where
 | code (base:Nat) (c:Code) (s:List AV) (H:ae)
 | seq (base:Nat) (ops:Array Oper) (l:List Oper) (s:List AV) (H:ae)
 | step (base:Nat) (ops:Array Oper) (o:Oper) (s:List AV) (H:ae)
 | call (base:Nat) (f:AV) (args:List AV) (H:ae)
 | func (base:Nat) (f:FuncId) (args:List AV) (H:ae)
inductive iB where
 | code (e:jC) (s:List AV) (H:ae)
 | seq (s:List AV) (H:ae)
 | val (v:AV) (H:ae)
def iB.c:Option iB→Option (jC×List AV×ae) | some (.code e s H)=>some (e,s,H) | _=>none
def iB.q:Option iB→Option (List AV×ae) | some (.seq s H)=>some (s,H) | _=>none
def iB.v:Option iB→Option (AV×ae) | some (.val v H)=>some (v,H) | _=>none
def iB.ofC:Option (jC×List AV×ae)→Option iB | some (e,s,H)=>some (.code e s H) | none=>none
def iB.ofQ:Option (List AV×ae)→Option iB | some (s,H)=>some (.seq s H) | none=>none
def iB.ofV:Option (AV×ae)→Option iB | some (v,H)=>some (.val v H) | none=>none
theorem iB.c_of (x:Option (jC×List AV×ae)):iB.c (iB.ofC x)=x:=by cases x<;>rfl
theorem iB.q_of (x:Option (List AV×ae)):iB.q (iB.ofQ x)=x:=by cases x<;>rfl
theorem iB.v_of (x:Option (AV×ae)):iB.v (iB.ofV x)=x:=by cases x<;>rfl
def Gq {α:Type} (n:Int) (k:Int→α):α:=Int.casesOn n (fun m=>Nat.casesOn m (k 0) fun m'=>k (Int.ofNat (m'+1))) (fun m=>k (Int.negSucc m))
def A5 {α:Type} (v:AV) (k:AV→α):α:=match v with | .int i n=>Gq n fun n'=>k (.int i n') | .bool b=>(match b with | true=>k (.bool true) | false=>k (.bool false)) | v=>k v
noncomputable def pa {α β:Type} (l:List β) (k:List β→α):α:=List.rec (motive:=fun _=>(List β→α)→α) (fun k=>k []) (fun a _ ih k=>ih fun l'=>k (a::l')) l k
theorem DP {α:Type} (n:Int) (k:Int→α):Gq n k=k n:=by
 cases n with
 | ofNat m=>cases m<;>rfl
 | negSucc m=>rfl
theorem DQ {α:Type} (v:AV) (k:AV→α):A5 v k=k v:=by
 unfold A5
 split
 ·exact DP _ _
 ·split<;>rfl
 ·rfl
theorem lA {α β:Type}:∀(l:List β) (k:List β→α),pa l k=k l
 | [],_=>rfl
 | a::l,k=>lA l fun l'=>k (a::l')
def JB:Op→Bool
 | .move _ | .assign _ | .pick .. | .build .. | .buildSlice .. | .load .. | .nilCheck _ | .binOp .. | .unOp .. | .makeFunc .. | .slice .. | .fieldAddr .. | .indexAddr .. | .index .. | .lookup .. | .extract .. | .call { callee:=.builtin .len,.. }=>true
 | _=>false
noncomputable section
section run
variable (P:Program) (C:bD) (ih:PH→Option iB)
def lr (base:Nat) (c:Code) (s:List AV) (H:ae):=iB.c (ih (.code base c s H))
def HD (base:Nat) (ops:Array Oper) (l:List Oper) (s:List AV) (H:ae):=iB.q (ih (.seq base ops l s H))
def As (base:Nat) (ops:Array Oper) (o:Oper) (s:List AV) (H:ae):=iB.v (ih (.step base ops o s H))
def zFS (base:Nat) (f:AV) (args:List AV) (H:ae):=iB.v (ih (.call base f args H))
def v8 (base:Nat) (f:FuncId) (args:List AV) (H:ae):=iB.v (ih (.func base f args H))
def oo (base:Nat) (c:Code) (s:List AV) (H:ae):Option (jC×List AV×ae) :=
 match c with
 | .skip=>some (.normal,s,H)
 | .label _=>some (.normal,s,H)
 | .ret=>some (.ret,s,H)
 | .exit id=>some (.exit id,s,H)
 | .seq a b =>
  match lr ih base a s H with
  | some (.normal,s',H')=>lr ih base b s' H'
  | r=>r
 | .cond x a b =>
  match aR s x with
  | .bool true=>lr ih base a s H
  | .bool false=>lr ih base b s H
  | _=>none
 | .block id b =>
  match lr ih base b s H with
  | some (.exit i,s',H')=>if i=id then some (.normal,s',H') else some (.exit i,s',H')
  | r=>r
 | .loop b =>
  match lr ih base b s H with
  | some (.normal,s',H')=>lr ih base (.loop b) s' H'
  | r=>r
 | .region _ ops false =>
  match HD ih base ops ops.toList s H with
  | some (s',H')=>some (.normal,s',H')
  | none=>none
 | .region _ ops true =>
  match mB P ops (fun o s H=>As ih base ops o s H) ops.toList s H with
  | some (tr,s',H')=>if jJ ops tr H' (fun o s H=>As ih base ops o s H) then pa s' fun s'=>pa H' fun H'=>some (.normal,s',H') else none
  | none=>none
 | .rangeFunc g ps assign body =>
  match aR s g with
  | .fn f caps =>
   match v8 ih base f (.yld H.length::caps) (H++[.loop true none s ps.toList assign body]) with
   | some (_,H2) =>
    match H2[H.length]? with
    | some (.loop true none _ _ _ _)=>pa (H2.set H.length .dead) fun H3=>some (.normal,s,H3)
    | some (.loop false (some c) _ _ _ _)=>lr ih base c s (H2.set H.length .dead)
    | _=>none
   | none=>none
  | _=>none
 | _=>none
def Mj (base:Nat) (ops:Array Oper) (l:List Oper) (s:List AV) (H:ae):Option (List AV×ae) :=
 match l with
 | []=>some (s,H)
 | o::rest =>
  match As ih base ops o s H with
  | some (v,H')=>A5 v fun v=>pa (nI s o.dst v) fun s1=>if JB o.op then HD ih base ops rest s1 H' else pa H' fun H1=>HD ih base ops rest s1 H1
  | none=>none
def HO (base:Nat) (ops:Array Oper) (o:Oper) (s:List AV) (H:ae):Option (AV×ae) :=
 match dD ops s o with
 | some true =>
  match o.op with
  | .call { callee:=.value f,args,.. }=>zFS ih base (aR s f) (args.toList.map (aR s)) H
  | _=>wv P C base H (aR s) o
 | some false=>some (.tup [],H)
 | none=>none
def yK (base:Nat) (f:AV) (args:List AV) (H:ae):Option (AV×ae) :=
 match f with
 | .fn f caps =>
  if C.pure f then
   match v8 ih H.length f (args++caps) H with
   | some (r,H')=>match aI H' H.length 3 r with | some r'=>some (r',H) | none=>none
   | none=>none
  else if C.frz f then
   match (args++caps).mapM (aI H 0 6) with
   | some aS =>
    match v8 ih 0 f aS [] with
    | some (r,_)=>if r.flat then some (r,H) else none
    | none=>none
   | none=>none
  else v8 ih base f (args++caps) H
 | .yld b =>
  match H[b]? with
  | some (.loop true none slots ps assign body) =>
   if base≤b∧args.length=ps.length then
    match lr ih base assign (dB ps args slots) H with
    | some (.normal,s1,H1) =>
     match H1[b]? with
     | some (.loop true none l1 p1 a1 b1) =>
      match lr ih base body s1 (H1.set b (.loop false none l1 p1 a1 b1)) with
      | some (e,_,H3) =>
       match H3[b]? with
       | some (.loop false none l3 p3 a3 b3)=>some (.bool e.code.isNone,H3.set b (.loop e.code.isNone e.code l3 p3 a3 b3))
       | _=>none
      | none=>none
     | _=>none
    | _=>none
   else none
  | _=>none
 | _=>none
def Gt (base:Nat) (f:FuncId) (args:List AV) (H:ae):Option (AV×ae) :=
 match C.prim f with
 | some p=>p base args H
 | none =>
  match P.funcs[f]? with
  | some fn =>
   match fn.body with
   | some c =>
    pa (args++List.replicate (fn.ntmps-args.length) (.tup [])) fun s0 =>
    match lr ih base c s0 H with
    | some (.normal,s',H')=>(dM P H' s' fn.results.toList).map fun vs=>(i7 vs,H')
    | some (.ret,s',H')=>(dM P H' s' fn.results.toList).map fun vs=>(i7 vs,H')
    | _=>none
   | none=>none
  | none=>none
def Mn:PH→Option iB
 | .code base c s H=>iB.ofC (oo P ih base c s H)
 | .seq base ops l s H=>iB.ofQ (Mj ih base ops l s H)
 | .step base ops o s H=>iB.ofV (HO P C ih base ops o s H)
 | .call base f args H=>iB.ofV (yK C ih base f args H)
 | .func base f args H=>iB.ofV (Gt P C ih base f args H)
end run
def rO (P:Program) (C:bD) (n:Nat):PH→Option iB:=Nat.rec (fun _=>none) (fun _ ih r=>Mn P C ih r) n
theorem LE (P:Program) (C:bD):∀n:Nat,(∀base c s H,rO P C n (.code base c s H)=iB.ofC (aP P C n base c s H))∧(∀base ops l s H,rO P C n (.seq base ops l s H)=iB.ofQ (jz P C n base ops l s H))∧
 (∀base ops o s H,rO P C n (.step base ops o s H)=iB.ofV (bF P C n base ops o s H))∧(∀base f args H,rO P C n (.call base f args H)=iB.ofV (dA P C n base f args H))∧(∀base f args H,rO P C n (.func base f args H)=iB.ofV (cx P C n base f args H)):=by
 intro n
 induction n with
 | zero =>
  refine ⟨fun _ _ _ _=>?_,fun _ _ _ _ _=>?_,fun _ _ _ _ _=>?_,fun _ _ _ _=>?_,fun _ _ _ _=>?_⟩
  ·rw [aP];rfl
  ·rw [jz];rfl
  ·rw [bF];rfl
  ·rw [dA];rfl
  ·rw [cx];rfl
 | succ n ih =>
  obtain ⟨i1,i2,i3,i4,i5⟩:=ih
  have e1:∀base c s H,lr (rO P C n) base c s H=aP P C n base c s H:=fun base c s H=>by rw [lr,i1,iB.c_of]
  have e2:∀base ops l s H,HD (rO P C n) base ops l s H=jz P C n base ops l s H:=fun base ops l s H=>by rw [HD,i2,iB.q_of]
  have e3:∀base ops o s H,As (rO P C n) base ops o s H=bF P C n base ops o s H:=fun base ops o s H=>by rw [As,i3,iB.v_of]
  have e4:∀base f args H,zFS (rO P C n) base f args H=dA P C n base f args H:=fun base f args H=>by rw [zFS,i4,iB.v_of]
  have e5:∀base f args H,v8 (rO P C n) base f args H=cx P C n base f args H:=fun base f args H=>by rw [v8,i5,iB.v_of]
  refine ⟨fun base c s H=>?_,fun base ops l s H=>?_,fun base ops o s H=>?_,fun base f args H=>?_,fun base f args H=>?_⟩
  ·show iB.ofC (oo P (rO P C n) base c s H)=_
   congr 1
   cases c with
   | region id ops draw =>
    cases draw
    ·simp only [aP,oo,e2]
     cases jz P C n base ops ops.toList s H<;>rfl
    ·simp only [aP,oo,e3,lA]
     cases mB P ops (fun o s H=>bF P C n base ops o s H) ops.toList s H<;>rfl
   | seq a b =>
    simp only [aP,oo,e1]
    cases aP P C n base a s H with
    | none=>rfl
    | some x=>obtain ⟨e,s',H'⟩:=x;cases e<;>rfl
   | cond x a b =>
    simp only [aP,oo,e1]
    cases aR s x with
    | bool t=>cases t<;>rfl
    | _=>rfl
   | block id b =>
    simp only [aP,oo,e1]
    cases aP P C n base b s H with
    | none=>rfl
    | some x=>obtain ⟨e,s',H'⟩:=x;cases e<;>rfl
   | loop b =>
    simp only [aP,oo,e1]
    cases aP P C n base b s H with
    | none=>rfl
    | some x=>obtain ⟨e,s',H'⟩:=x;cases e<;>rfl
   | rangeFunc g ps assign body =>
    simp only [aP,oo,e1,e5,lA]
    cases aR s g with
    | fn f caps =>
     simp only
     cases cx P C n base f (.yld H.length::caps) (H++[.loop true none s ps.toList assign body]) with
     | none=>rfl
     | some x =>
      obtain ⟨v,H2⟩:=x
      simp only
      cases H2[H.length]? with
      | none=>rfl
      | some y =>
       cases y with
       | loop r p l ps a b=>cases r<;>cases p<;>rfl
       | _=>rfl
    | _=>rfl
   | _=>simp only [aP,oo]
  ·show iB.ofQ (Mj (rO P C n) base ops l s H)=_
   congr 1
   cases l with
   | nil=>rw [jz];rfl
   | cons o rest =>
    rw [jz]
    unfold Mj
    simp only [e2,e3,lA,DQ,ite_self]
    cases bF P C n base ops o s H<;>rfl
  ·show iB.ofV (HO P C (rO P C n) base ops o s H)=_
   congr 1
   rw [bF]
   unfold HO
   simp only [e4]
   cases dD ops s o with
   | none=>rfl
   | some b =>
    cases b with
    | false=>rfl
    | true =>
     simp only
     cases o.op with
     | call c =>
      obtain ⟨callee,args,ats⟩:=c
      cases callee<;>rfl
     | _=>rfl
  ·show iB.ofV (yK C (rO P C n) base f args H)=_
   congr 1
   cases f with
   | fn f caps =>
    simp only [dA,yK,e5]
    split
    ·cases cx P C n H.length f (args++caps) H with
     | none=>rfl
     | some x =>
      obtain ⟨r,H'⟩:=x
      simp only
      cases aI H' H.length 3 r<;>rfl
    ·split
     ·cases (args++caps).mapM (aI H 0 6) with
      | none=>rfl
      | some av =>
       simp only
       cases cx P C n 0 f av [] with
       | none=>rfl
       | some x=>obtain ⟨r,H'⟩:=x;rfl
     ·rfl
   | yld b =>
    simp only [dA,yK,e1]
    cases H[b]? with
    | none=>rfl
    | some y =>
     cases y with
     | loop r p l ps a bd =>
      cases r
      ·rfl
      ·cases p
       ·simp only
        split
        ·cases aP P C n base a (dB ps args l) H with
         | none=>rfl
         | some x =>
          obtain ⟨e,s1,H1⟩:=x
          cases e
          ·simp only
           cases H1[b]? with
           | none=>rfl
           | some y =>
            cases y with
            | loop r p l1 p1 a1 b1 =>
             cases r
             ·rfl
             ·cases p
              ·simp only
               cases aP P C n base bd s1 (H1.set b (.loop false none l1 p1 a1 b1)) with
               | none=>rfl
               | some x =>
                obtain ⟨e,s2,H3⟩:=x
                simp only
                cases H3[b]? with
                | none=>rfl
                | some y =>
                 cases y with
                 | loop r p l3 p3 a3 b3=>cases r<;>cases p<;>rfl
                 | _=>rfl
              ·rfl
            | _=>rfl
          ·rfl
          ·rfl
        ·rfl
       ·rfl
     | _=>rfl
   | _=>simp only [dA,yK]
  ·show iB.ofV (Gt P C (rO P C n) base f args H)=_
   congr 1
   rw [cx]
   unfold Gt
   simp only [e1,lA]
   cases C.prim f with
   | some p=>rfl
   | none =>
    simp only
    cases P.funcs[f]? with
    | none=>rfl
    | some fn =>
     simp only
     cases fn.body with
     | none=>rfl
     | some c =>
      simp only
      cases aP P C n base c (args++List.replicate (fn.ntmps-args.length) (.tup [])) H with
      | none=>rfl
      | some x=>obtain ⟨e,s',H'⟩:=x;cases e<;>rfl
theorem Gh {P:Program} {C:bD} {n base:Nat} {f:FuncId} {args:List AV} {H:ae}:iB.v (rO P C n (.func base f args H))=cx P C n base f args H:=by
 rw [((LE P C n).2.2.2.2) base f args H,iB.v_of]
end
end Go.Proofs.Ev
namespace Go.Proofs.Ev
open Go.Proofs
variable {N:gH} {φ φ':fJ} {H:ae} {w w':World} {n n':Nat}
theorem gh:∀{l:List AV},AV.closeds l=true→∀{j:Nat} {v:AV},l[j]?=some v→v.closed=true
 | [],_,_,_,h=>by simp at h
 | a::l,hc,j,v,h=>by
  rw [AV.closeds,Bool.and_eq_true] at hc
  cases j with
  | zero=>simp at h;subst h;exact hc.1
  | succ j=>exact gh hc.2 (by simpa using h)
theorem p5:∀{l:List (List AV)},AV.closedss l=true→∀{i:Nat} {r:List AV},l[i]?=some r→AV.closeds r=true
 | [],_,_,_,h=>by simp at h
 | a::l,hc,i,r,h=>by
  rw [AV.closedss,Bool.and_eq_true] at hc
  cases i with
  | zero=>simp at h;subst h;exact hc.1
  | succ i=>exact p5 hc.2 (by simpa using h)
theorem RV.move {v:AV} {V:Value} (hn:∀cb,cG φ cb→cG φ' cb) (h:RV φ n w v V) (hc:v.closed=true):RV φ' n' w v V:=by
 induction h with
 | undef V=>cases hc
 | bool b=>exact .bool b
 | int k i=>exact .int k i
 | str l=>exact .str l
 | nilp=>exact .nilp
 | ptr _ _=>cases hc
 | eptr Vs hs hcc _ ih=>exact .eptr Vs hs (fun j v hj=>⟨(hcc j v hj).1,hn _ (hcc j v hj).2.1,(hcc j v hj).2.2⟩) fun j v hj=>ih j v hj (gh hc hj)
 | lst Vs esz hlen hcap he hbb _ ih =>
  refine .lst Vs esz hlen hcap he (fun hne=>?_) fun i row hi j v hj=>ih i row hi j v hj (gh (p5 hc hi) hj)
  obtain ⟨cb,off,h1,h2⟩:=hbb hne
  exact ⟨cb,off,h1,fun i row hi=>⟨(h2 i row hi).1,fun j v hj=>⟨((h2 i row hi).2 j v hj).1,hn _ ((h2 i row hi).2 j v hj).2.1,((h2 i row hi).2 j v hj).2.2⟩⟩⟩
 | sl _ _ _=>cases hc
 | asl _ _ _=>cases hc
 | nilm=>exact .nilm
 | nils=>exact .nils
 | map _ _=>cases hc
 | nilf=>exact .nilf
 | fn hl _ ih=>exact .fn hl fun j v V hj hV=>ih j v V hj hV (gh hc hj)
 | yld _ _=>cases hc
 | agg hl hf _ ih=>exact .agg hl hf fun j v V hj hV=>ih j v V hj hV (gh hc hj)
 | tup hl _ ih=>exact .tup hl fun j v V hj hV=>ih j v V hj hV (gh hc hj)
def iM (φ:fJ):fJ:=⟨fun _=>none,fun cb=>φ.res cb∨∃b L,φ b=some L∧L.cb=cb⟩
theorem mo {cb:Nat}:cG (iM φ) cb↔cG φ cb:=by
 constructor
 ·rintro ⟨_,h⟩
  exact ⟨fun b L hL e=>h (.inr ⟨b,L,hL,e⟩),fun hr=>h (.inl hr)⟩
 ·rintro ⟨h1,h2⟩
  refine ⟨fun b L hL=>by simp [iM] at hL,?_⟩
  rintro (h | ⟨b,L,hL,e⟩)
  ·exact h2 h
  ·exact h1 b L hL e
theorem HR.hide (h:HR N φ H w):HR N (iM φ) [] w:={
 low:=h.low
 kept:=fun cb c T fr hc=>⟨(h.kept cb c T fr hc).1,mo.2 (h.kept cb c T fr hc).2⟩
 dead b _:=rfl
 base b L hL:=by simp [iM] at hL
 inj b b' L L' hL:=by simp [iM] at hL
 resn b L hL:=by simp [iM] at hL
 ress cb hr:=by
  rcases hr with hr | ⟨b,L,hL,rfl⟩
  ·exact h.ress cb hr
  ·exact (h.base b L hL).2
 rows b esz g rs hb:=by simp at hb
 map b es hb:=by simp at hb
 loop b r p s ps a c hb:=by simp at hb
 it b m k st hb:=by simp at hb }
theorem AW {P:Program} {C:bD} (hS:C.Sound P N) {n:Nat} {f:FuncId} {av:List AV} {v:AV} (hf:((cx P C n 0 f av []).bind fun r=>aI r.2 0 6 r.1)=some v) (ha:AV.closeds av=true) (hv:v.closed=true) (hH:HR N φ H w) {Vs:Array Value} (hargs:kF (fun v V=>RV φ H.length w v V) av Vs.toList) :
 CallsIn (Fw none) 0 P f Vs w fun e w'=>∃V,e=.returned V∧RV φ H.length w' v V∧HR N φ H w'∧bZ φ H.length w φ H.length w':=by
 cases hf1:cx P C n 0 f av [] with
 | none=>rw [hf1] at hf;cases hf
 | some r =>
  obtain ⟨v1,H1⟩:=r
  rw [hf1] at hf
  simp only [Option.bind_some] at hf
  obtain ⟨_,hc⟩:=(qO hS n).2.2.2.2.1 0 f av [] _ _ hf1
  have hall0:kF (fun v V=>RV (iM φ) 0 w v V) av Vs.toList:=by
   have h1:=hargs.get
   refine kF.of_get h1.1 fun i x y hx hy=>?_
   obtain ⟨V,h2,h3⟩:=h1.2 i x hx
   rw [h2] at hy;cases hy
   exact h3.move (fun cb=>mo.2) (gh ha hx)
  refine (hc (Nat.le_refl _) hH.hide hall0).mono ?_
  rintro e w' ⟨V,φ',rfl,hrv,h1,hx,hlow⟩
  have hres:∀cb,φ'.res cb↔(iM φ).res cb:=fun cb=>by rw [hx.res]
  have pres:∀(cb:Nat) (o:Obj),w.heap[cb]?=some o→w'.heap[cb]?=some o:=by
   intro cb o ho
   by_cases hr:(iM φ).res cb
   ·exact hx.keep cb o hr ho
   ·exact hx.same cb o ho ⟨fun b L hL=>by simp [iM] at hL,hr⟩
  refine ⟨V,rfl,?_,hH.keeps hx.size pres hx.env,bZ.keeps hx.size pres hx.env⟩
  refine (eL h1 6 hf hrv).move (fun cb hn=>?_) hv
  refine mo.1 ⟨fun b L hL=>by simp [iM] at hL,fun hr=>hn.2 ?_⟩
  exact (hres cb).2 hr
structure Fx where
 f:FuncId
 a:List AV
 v:AV
def mV (N:gH) (r:Fx):Prop:=(∃fn:Func,Tryz.prog.funcs[r.f]?=some fn∧fn.body.isSome=true)∧∀φ H w (Vs:Array Value),HR N φ H w→kF (fun v V=>RV φ H.length w v V) r.a Vs.toList→
 CallsIn (Fw none) 0 Tryz.prog r.f Vs w fun e w'=>∃V φ',e=.returned V∧RV φ' H.length w' r.v V∧HR N φ' H w'∧bZ φ H.length w φ' H.length w'
def Ka (T:List Fx) (f:FuncId) (_:Nat) (args:List AV) (H:ae):Option (AV×ae) :=
 match T.find? fun r=>r.f==f&&AV.beqs r.a args with
 | some r=>some (r.v,H)
 | none=>none
theorem HW {T:List Fx} (hT:∀r∈T,mV N r) {f:FuncId} (hf:T.any (fun r=>r.f==f)=true):gL Tryz.prog N f (Ka T f):=by
 obtain ⟨r0,h0,h1⟩:=List.any_eq_true.1 hf
 have h1:r0.f=f:=by simpa using h1
 refine ⟨h1▸(hT r0 h0).1,fun base args H v H' h φ w Vs hb hH ht=>?_⟩
 unfold Ka at h
 split at h
 ·rename_i r hr
  cases h
  have hm:=List.mem_of_find?_eq_some hr
  have hp:=List.find?_some hr
  simp only [Bool.and_eq_true,beq_iff_eq] at hp
  obtain ⟨rfl,hb2⟩:=hp
  have:=me _ _ hb2
  subst this
  refine ((hT r hm).2 φ H w Vs hH ht).mono ?_
  rintro e w' ⟨V,φ',h1,h2,h3,h4⟩
  exact ⟨V,φ',h1,h2,h3,h4,fun _ _=>rfl⟩
 ·cases h
theorem nZ {C:bD} (hS:C.Sound Tryz.prog N) {f:FuncId} {a:List AV} {v:AV} (hp:C.pure f=true) (hr:b8 Tryz.prog C f [] a v) (hb:∃fn:Func,Tryz.prog.funcs[f]?=some fn∧fn.body.isSome=true):mV N ⟨f,a,v⟩:=by
 refine ⟨hb,fun φ H w Vs hH ht=>?_⟩
 obtain ⟨n,h⟩:=hr 0 H
 cases n with
 | zero=>simp [dA] at h
 | succ n =>
  simp only [dA,hp,if_true,List.append_nil] at h
  cases hf:cx Tryz.prog C n H.length f a H with
  | none=>rw [hf] at h;cases h
  | some vh =>
   obtain ⟨v1,H1⟩:=vh
   rw [hf] at h
   simp only at h
   cases hfr:aI H1 H.length 3 v1 with
   | none=>rw [hfr] at h;cases h
   | some v2 =>
    rw [hfr] at h;cases h
    obtain ⟨_,hc⟩:=(qO hS n).2.2.2.2.1 H.length f a H v1 H1 hf
    refine (hc (Nat.le_refl _) hH ht).mono ?_
    rintro e w' ⟨V,φ',rfl,hv,h1,hx,hlow⟩
    exact ⟨V,cF φ' H.length,rfl,eL h1 3 hfr hv,hH.cut h1 hlow,hx.cut⟩
theorem JU {C:bD} (hS:C.Sound Tryz.prog N) {n:Nat} {f:FuncId} {a:List AV} {v:AV} (hf:((cx Tryz.prog C n 0 f a []).bind fun r=>aI r.2 0 6 r.1)=some v) (ha:AV.closeds a=true) (hv:v.closed=true) (hb:∃fn:Func,Tryz.prog.funcs[f]?=some fn∧fn.body.isSome=true):mV N ⟨f,a,v⟩ :=
 ⟨hb,fun φ H w Vs hH ht=>(AW hS hf ha hv hH ht).mono fun e w' ⟨V,h1,h2,h3,h4⟩=>⟨V,φ,h1,h2,h3,h4⟩⟩
end Go.Proofs.Ev
namespace Go.Proofs.Ev
open Go.Proofs Go.Sort
def SB:aW:={ rx with kind:=1,type:=1 }
def SC:aW:={ rx with kind:=2,parent:=nL,name:=[102] }
def SD:aW:={ rx with kind:=5,lines:=[[120],[121]],linesK:=.exact }
def p1:aA:=⟨[97,110,110],[],0,[],.nil,[SB,SC,SD],.exact⟩
def d1:ar:=⟨[226,249,67,36,224,136,119,52,116,112,63,225,173,69,214,183,113,16,111,186,229,28,180,40,14,159,111,192,115,126,3,9],by decide,by decide⟩
def Ax (d:ar) (n:Int):aC:=⟨d.d,n,d.h,d.b⟩
def p2:aA:=⟨[98,111,98],[],0,[],.nil,[{ rx with kind:=7,over:=[Ax d1 2],overK:=.exact }],.exact⟩
def d2:ar:=⟨[180,232,99,19,238,250,85,112,0,7,167,54,126,144,140,62,33,237,98,193,158,36,208,198,45,253,132,232,210,167,111,29],by decide,by decide⟩
theorem xQ:p1.Good:={
 fit:=(xA ⟨by simp [p1],by simp [p1],by simp [p1],by simp [p1],by
  intro c hc
  simp only [p1,List.mem_cons,List.not_mem_nil,or_false] at hc
  rcases hc with rfl | rfl | rfl<;>exact ⟨by decide,by decide,by decide,by decide,by decide⟩⟩ (by kernel_rfl)).1
 ok:=by kernel_rfl
 n:=by have:(aT p1).length=7:=by kernel_rfl
       omega }
theorem xR:p2.Good:={
 fit:=(xA ⟨by simp [p2],by simp [p2],by simp [p2],by simp [p2],by
  intro c hc
  simp only [p2,List.mem_cons,List.not_mem_nil,or_false] at hc
  subst hc
  exact ⟨by decide,by decide,by decide,by decide,by decide⟩⟩ (by kernel_rfl)).1
 ok:=by kernel_rfl
 n:=by have:(aT p2).length=1:=by kernel_rfl
       omega }
theorem GZ:p1.dig=d1:=ar.ext' (by kernel_rfl)
theorem G0:p2.dig=d2:=ar.ext' (by kernel_rfl)
theorem nN {α:Type} [Inhabited α] {cf:α→α→Int} (hO:SWO (ltOf cf)) {l:List α} (h:l.length≤1):iS cf l=l:=by
 have hp:=ky hO l
 match l,h with
 | [],_=>exact hp.eq_nil
 | [x],_=>exact List.perm_singleton.1 hp
 | _::_::_,h=>simp at h
def OC:aZ:=⟨id,id⟩
theorem FJ {p:aA} (h:∀x∈aT p,x.over.length≤1):bK qC p=(aT p).map (ss OC p.dig):=by
 refine List.map_congr_left fun x hx=>?_
 unfold ss
 have:=nN pE (l:=x.over.map fun z=>bi z p.dig) (by rw [List.length_map];exact h x hx)
 show ({ vc p.dig (vG p.dig (vF p.dig (Fj p.dig x))) with over:=iS df (x.over.map fun z=>bi z p.dig),overK:=gO x.over }:aG)=_
 rw [this];rfl
theorem over1 {l:List aG} (h:(l.all fun x=>decide (x.over.length≤1))=true):∀x∈l,x.over.length≤1:=fun x hx=>by simpa using List.all_eq_true.1 h x hx
variable {N:gH}
theorem G3:gL Tryz.prog N 5 (fun _ _ _=>none):=⟨⟨_,Tryz.func5,rfl⟩,fun _ _ _ _ _ h=>by cases h⟩
def Q1 (p:aA) (d:ar):AV:=.tup [.lst (((aT p).map (ss OC d)).map aG.cells) false,.int .i64 0]
def Hu:List Fx:=[⟨41,[.agg p1.cells],.tup [.agg d1.cells,.int .i64 0]⟩,⟨41,[.agg p2.cells],.tup [.agg d2.cells,.int .i64 0]⟩,
 ⟨65,[.agg p1.cells],Q1 p1 d1⟩,⟨65,[.agg p2.cells],Q1 p2 d2⟩,
 ⟨83,[.agg p1.cells],.lst [] true⟩,⟨83,[.agg p2.cells],.lst [d1.cells] false⟩]
theorem L4:dQ qC p1=[]:=by
 have h:cM p1=[]:=by rfl
 have:iS (fun a b:ar=>bQ a.d b.d) []=[]:=nN n9 (by simp)
 unfold dQ qC
 rw [h]
 simp only
 rw [this];rfl
theorem GO:cM p2=[d1]:=by rfl
theorem Hv (hT:fS Tryz.prog N) (hG:jk N) (hL:kW N):∀r∈Hu,mV N r:=by
 have hS:=HL hT hG hL (G3 (N:=N))
 have hQ:fg (dF fun _ _ _=>none) qC:=uj
 have hR:jW (dF fun _ _ _=>none) qC:=uk
 intro r hr
 simp only [Hu,List.mem_cons,List.not_mem_nil,or_false] at hr
 rcases hr with rfl | rfl | rfl | rfl | rfl | rfl
 ·have:=yb pi p1 xQ (C:=dF fun _ _ _=>none)
  rw [GZ] at this
  exact nZ hS (by kernel_rfl) this ⟨_,Tryz.func41,rfl⟩
 ·have:=yb pi p2 xR (C:=dF fun _ _ _=>none)
  rw [G0] at this
  exact nZ hS (by kernel_rfl) this ⟨_,Tryz.func41,rfl⟩
 ·have:=lM hQ p1 xQ
  rw [FJ (over1 (by kernel_rfl)),GZ] at this
  exact nZ hS (by kernel_rfl) this ⟨_,Tryz.func65,rfl⟩
 ·have:=lM hQ p2 xR
  rw [FJ (over1 (by kernel_rfl)),G0] at this
  exact nZ hS (by kernel_rfl) this ⟨_,Tryz.func65,rfl⟩
 ·have:=rn hR p1 xQ
  rw [L4] at this
  exact nZ hS (by kernel_rfl) this ⟨_,Tryz.func83,rfl⟩
 ·have:=rn hR p2 xR
  have hn:dQ qC p2=[d1]:=by
   unfold dQ qC
   rw [GO]
   simp only
   rw [nN n9 (by simp)];rfl
  rw [hn,GO] at this
  exact nZ hS (by kernel_rfl) this ⟨_,Tryz.func83,rfl⟩
end Go.Proofs.Ev
namespace Go.Proofs.Ev
open Go.Proofs
variable {N:gH}
def GC:List LK:=List.replicate 32 (.int .u8)
def By (t:TypeId):Option (List LK) :=
 if t=25 then some GC else if t=27 then some (GC++[.int .i64]) else
 if t=62 then some (.int .i64::(GC++(GC++[.int .i64]))) else if t=60 then some (GC++[.int .i64,.str,.int .i64]) else
 if t=178 then some [.int .i64,.int .i64] else if t=235 then some (GC++[.int .i64,.str]) else none
def pureA:List FuncId:=[315,300,246,245,244,233,232,219,216,215,213,173,170,168,167,166,161,159,156,155,150,138,137,112,104,103,101,97,96,94,90,83,82,81,79,162,99,109,58,56,55,52,50,49,44,42,41,106,65,64,21,13,12,20,8,19,18,17,53,6]
def G4 (T:List Fx) (f:FuncId):Option (Nat→List AV→ae→Option (AV×ae)) :=
 if f=137 then some zE else if f=47 then some Ma else if T.any (fun r=>r.f==f) then some (Ka T f) else none
def tu (T:List Fx):bD:=⟨G4 T,fun f=>pureA.contains f,fun _=>false,By⟩
theorem D1:∀t ks,By t=some ks→da Tryz.prog 20 t=some ks∧Tryz.prog.eqGuardType Tryz.prog.depth t=false∧be Tryz.prog t=some true:=by
 intro t ks h
 unfold By at h
 split at h
 ·rename_i ht;subst ht;cases h;exact ⟨by kernel_rfl,by kernel_rfl,by kernel_rfl⟩
 split at h
 ·rename_i ht;subst ht;cases h;exact ⟨by kernel_rfl,by kernel_rfl,by kernel_rfl⟩
 split at h
 ·rename_i ht;subst ht;cases h;exact ⟨by kernel_rfl,by kernel_rfl,by kernel_rfl⟩
 split at h
 ·rename_i ht;subst ht;cases h;exact ⟨by kernel_rfl,by kernel_rfl,by kernel_rfl⟩
 split at h
 ·rename_i ht;subst ht;cases h;exact ⟨by kernel_rfl,by kernel_rfl,by kernel_rfl⟩
 split at h
 ·rename_i ht;subst ht;cases h;exact ⟨by kernel_rfl,by kernel_rfl,by kernel_rfl⟩
 cases h
theorem Mm (hT:fS Tryz.prog N) {T:List Fx} (hr:∀r∈T,mV N r):(tu T).Sound Tryz.prog N:={
 fits:=⟨D1⟩
 mixed:=by kernel_rfl
 tag:=hT
 names:=qm
 prim f q h:=by
  change G4 T f=some q at h
  unfold G4 at h
  split at h
  ·rename_i hf;subst hf;cases h;exact F3 N
  split at h
  ·rename_i hf;subst hf;cases h;exact LZ hT
  split at h
  ·rename_i hf;cases h;exact HW hr hf
  cases h }
theorem GB (hL:kW N):mV N ⟨156,[.int .i64 0],.str [48]⟩:=by
 refine ⟨⟨_,Tryz.func156,rfl⟩,fun φ H w Vs hH ht=>?_⟩
 have h:uu 0 [.int .i64 0] H=some (.str [48],H):=by
  show (if (-9223372036854775808:Int)≤0∧(0:Int)≤9223372036854775807 then some (AV.str (nd 0),H) else none)=_
  rw [if_pos ⟨by decide,by decide⟩]
  have:nd 0=[48]:=by simp [nd,kY]
  rw [this]
 refine ((CL hL).2 0 _ H _ _ h φ w Vs (Nat.zero_le _) hH ht).mono ?_
 rintro e w' ⟨V,φ',h1,h2,h3,h4,_⟩
 exact ⟨V,φ',h1,h2,h3,h4⟩
def oI:List Fx:=⟨156,[.int .i64 0],.str [48]⟩::Hu
theorem Am (hT:fS Tryz.prog N) (hG:jk N) (hL:kW N):∀r∈oI,mV N r:=by
 intro r hr
 rcases List.mem_cons.1 hr with rfl | hr
 ·exact GB hL
 ·exact Hv hT hG hL r hr
theorem iR {T:List Fx} (hT:fS Tryz.prog N) (hr:∀r∈T,mV N r) {n:Nat} {f:FuncId} {a:List AV} {v:AV} (hf:((iB.v (rO Tryz.prog (tu T) n (.func 0 f a []))).bind fun r=>aI r.2 0 6 r.1)=some v) (ha:AV.closeds a=true) (hv:v.closed=true) (hb:∃fn:Func,Tryz.prog.funcs[f]?=some fn∧fn.body.isSome=true):mV N ⟨f,a,v⟩ :=
 JU (Mm hT hr) (by rw [Gh] at hf;exact hf) ha hv hb
end Go.Proofs.Ev
namespace Go.Proofs.Ev
open Go.Proofs
variable {N:gH}
def RK:List AV:=d1.cells++p1.cells
def SV:List AV:=d2.cells++p2.cells
def JW:AV:=.lst [RK] false
def sE:AV:=.lst [SV,RK] false
set_option maxRecDepth 100000 in
theorem HB:((iB.v (rO Tryz.prog (tu oI) 3000 (.func 0 17 [.nils,.agg p1.cells] []))).bind fun r=>aI r.2 0 6 r.1)=some (.tup [JW,.agg d1.cells,.int .i64 0]):=by kernel_rfl
set_option maxRecDepth 100000 in
theorem HC:((iB.v (rO Tryz.prog (tu oI) 3000 (.func 0 17 [JW,.agg p2.cells] []))).bind fun r=>aI r.2 0 6 r.1)=some (.tup [sE,.agg d2.cells,.int .i64 0]):=by kernel_rfl
end Go.Proofs.Ev
namespace Go.Proofs.Ev
open Go.Proofs
set_option maxRecDepth 100000 in
theorem Cj:((iB.v (rO Tryz.prog (tu oI) 3000 (.func 0 6 [sE,.agg (Ax d1 2).cells] []))).bind fun r=>aI r.2 0 6 r.1)=some (.tup [.lst [.int .i64 1::(d1.cells++(Ax d1 2).cells),.int .i64 2::(d2.cells++(Ax d2 0).cells)] false,.int .i64 0]):=by kernel_rfl
set_option maxRecDepth 100000 in
theorem E4:((iB.v (rO Tryz.prog (tu oI) 3000 (.func 0 8 [sE,.agg (Ax d1 0).cells] []))).bind fun r=>aI r.2 0 6 r.1)=some (.tup [.lst [d1.cells,d2.cells] false,.int .i64 0]):=by kernel_rfl
end Go.Proofs.Ev
namespace Go.Proofs.Ev
open Go.Proofs
set_option maxRecDepth 100000 in
theorem E3:((iB.v (rO Tryz.prog (tu oI) 3000 (.func 0 49 [sE] []))).bind fun r=>aI r.2 0 6 r.1)=some (.lst [.str [102]::(Ax d1 0).cells] false):=by kernel_rfl
end Go.Proofs.Ev
namespace Go.Proofs.Ev
open Go.Proofs
def Pk:AV:=.agg [.lst [(Ax d1 2).cells++[.str [120],.bool false],(Ax d1 3).cells++[.str [121],.bool true]] false,.lst [[.int .i64 (-1),.int .i64 0],[.int .i64 0,.int .i64 1],[.int .i64 1,.int .i64 (-1)]] false]
set_option maxRecDepth 100000 in
theorem Mh:((iB.v (rO Tryz.prog (tu oI) 3000 (.func 0 50 [sE,.agg (Ax d1 0).cells] []))).bind fun r=>aI r.2 0 6 r.1)=some (.tup [Pk,.int .i64 0]):=by kernel_rfl
end Go.Proofs.Ev
namespace Go.Proofs.Ev
open Go.Proofs
set_option maxRecDepth 100000 in
theorem Ao:((iB.v (rO Tryz.prog (tu oI) 3000 (.func 0 52 [Pk] []))).bind fun r=>aI r.2 0 6 r.1)=some (.lst [[.bool false,.lst [[.int .i64 1]] false,.nils]] false):=by kernel_rfl
end Go.Proofs.Ev
namespace Go.Proofs.Ev
open Go.Proofs
variable {C:bD} {σ:aZ}
theorem FM (S:ba C σ) (v:AV) (hv:v.leaf=true) (hc:v.cells=[v]) {base:Nat} {H:ae} (K:AV→ae→Prop) :
 aF Tryz.prog C base (.fn 255 []) [v] H K=K (.fn 322 [.ptr H.length 0 1 0 0]) (H++[.rows 1 0 [[v]]]):=by
 refine aF.eq (bW (S.plainT _ (by decide)).1 (S.plainT _ (by decide)).2 (aj Tryz.func255 rfl (S.prim _ (by decide)) (by simp) (by kernel_rfl) ?_)) K
 unfold Tryz.f255
 simp [aE,hv,hc]
theorem FL (S:ba C σ) (v:AV) (hv:v.leaf=true) (hc:v.cells=[v]) {base:Nat} {H:ae} (K:AV→ae→Prop) :
 aF Tryz.prog C base (.fn 256 []) [v] H K=K (.fn 323 [.ptr H.length 0 1 0 0]) (H++[.rows 1 0 [[v]]]):=by
 refine aF.eq (bW (S.plainT _ (by decide)).1 (S.plainT _ (by decide)).2 (aj Tryz.func256 rfl (S.prim _ (by decide)) (by simp) (by kernel_rfl) ?_)) K
 unfold Tryz.f256
 simp [aE,hv,hc]
theorem AI (S:ba C σ) {l:List ar} {k:SK} {base bl bs:Nat} (hl:l.length≤2^40) {I:Nat→ae→Prop} (hb:∀j X,I j X→ax X bs 0 1 0=some [am k (l.map ar.cells)])
 (hy:∀(j m:Nat) X d,I j X→m+j+1=l.length→l[m]?=some d→aF Tryz.prog C base (.yld bl) [.int .i64 (m:Int),.agg d.cells] X fun v X'=>v=.bool true∧I (j+1) X') {X0:ae} (h0:I 0 X0) (K:AV→ae→Prop) (hK:∀X,I l.length X→K (.tup []) X) :
 dU Tryz.prog C base 322 [.yld bl,.ptr bs 0 1 0 0] X0 K:=by
 refine aj Tryz.func322 rfl (S.prim _ (by decide)) (by simp) (by kernel_rfl) ?_
 unfold Tryz.f322
 have hb0:=hb 0 X0 h0
 have w0:IntKind.i64.wrap ((l.length:Int)-1)=(l.length:Int)-1:=aO (by omega) (by omega)
 simp [aE,hb0,w0]
 refine ay l.length (fun j s X=>s 0=.yld bl∧s 1=.ptr bs 0 1 0 0∧s 3=.int .i64 ((l.length:Int)-1-j)∧I j X) ?_ ?_
 ·exact ⟨rfl,rfl,by simp,h0⟩
 rintro j s X ⟨q0,q1,q3,hI⟩ hj
 by_cases h:j<l.length
 ·obtain ⟨m,hm⟩:∃m,m+j+1=l.length:=⟨l.length-1-j,by omega⟩
  have hmi:(l.length:Int)-1-j=(m:Int):=by omega
  rw [hmi] at q3
  have hml:m<l.length:=by omega
  obtain ⟨X',hI',ey⟩:=aF.ex (hy j m X l[m] hI hm (List.getElem?_eq_getElem hml))
  have w1:IntKind.i64.wrap ((m:Int)-1)=(l.length:Int)-1-((j:Int)+1):=by rw [aO (by omega) (by omega)];omega
  simp [q0,q1,q3,hb j X hI,hml,ey,w1]
  exact ⟨h,hI'⟩
 ·have h':j=l.length:=by omega
  have hneg:(l.length:Int)-1-j = -1:=by omega
  rw [hneg] at q3
  rw [h'] at hI
  simp [q0,q1,q3]
  exact hK X hI
theorem AH (S:ba C σ) {l:List aG} {k:SK} {base bl bs:Nat} (hl:l.length≤2^40) {I:Nat→ae→Prop} (hb:∀j X,I j X→ax X bs 0 1 0=some [am k (l.map aG.cells)])
 (hy:∀(j m:Nat) X d,I j X→m+j+1=l.length→l[m]?=some d→aF Tryz.prog C base (.yld bl) [.int .i64 (m:Int),.agg d.cells] X fun v X'=>v=.bool true∧I (j+1) X') {X0:ae} (h0:I 0 X0) (K:AV→ae→Prop) (hK:∀X,I l.length X→K (.tup []) X) :
 dU Tryz.prog C base 323 [.yld bl,.ptr bs 0 1 0 0] X0 K:=by
 refine aj Tryz.func323 rfl (S.prim _ (by decide)) (by simp) (by kernel_rfl) ?_
 unfold Tryz.f323
 have hb0:=hb 0 X0 h0
 have w0:IntKind.i64.wrap ((l.length:Int)-1)=(l.length:Int)-1:=aO (by omega) (by omega)
 simp [aE,hb0,w0]
 refine ay l.length (fun j s X=>s 0=.yld bl∧s 1=.ptr bs 0 1 0 0∧s 3=.int .i64 ((l.length:Int)-1-j)∧I j X) ?_ ?_
 ·exact ⟨rfl,rfl,by simp,h0⟩
 rintro j s X ⟨q0,q1,q3,hI⟩ hj
 by_cases h:j<l.length
 ·obtain ⟨m,hm⟩:∃m,m+j+1=l.length:=⟨l.length-1-j,by omega⟩
  have hmi:(l.length:Int)-1-j=(m:Int):=by omega
  rw [hmi] at q3
  have hml:m<l.length:=by omega
  obtain ⟨X',hI',ey⟩:=aF.ex (hy j m X l[m] hI hm (List.getElem?_eq_getElem hml))
  have w1:IntKind.i64.wrap ((m:Int)-1)=(l.length:Int)-1-((j:Int)+1):=by rw [aO (by omega) (by omega)];omega
  simp [q0,q1,q3,hb j X hI,hml,ey,w1]
  exact ⟨h,hI'⟩
 ·have h':j=l.length:=by omega
  have hneg:(l.length:Int)-1-j = -1:=by omega
  rw [hneg] at q3
  rw [h'] at hI
  simp [q0,q1,q3]
  exact hK X hI
structure Fr (C:bD) (base bl bs start N:Nat) (s:List ag) (k:SK) (I:List aG→ae→Prop):Prop where
 app:∀{l:List aG} {X:ae} (L:ae),I l X→I l (X++L)
 set:∀{l:List aG} {X:ae} {b:Nat} {blk:bL} (x:bL),I l X→start≤b→X[b]?=some blk→(∀g rs,blk≠.rows 33 g rs)→I l (X.set b x)
 low:∀{l:List aG} {X:ae},I l X→base≤start∧start≤X.length
 src:∀{l:List aG} {X:ae},I l X→ax X bs 0 1 0=some [am k (s.map ag.cells)]
 yld:∀{l:List aG} {X:ae} (y:aG),I l X→l.length≤N→y.over.length≤2^10→∃X',I (l++[y]) X'∧(∀b blk,start≤b→X[b]?=some blk→(∀g rs,blk≠.rows 33 g rs)→X'[b]?=some blk)∧
  ∀K:AV→ae→Prop,aF Tryz.prog C base (.yld bl) [.agg y.cells] X K=K (.bool true) X'
def qh (σ:aZ) (s:List ag) (L:List ar) (j:Nat):List aG:=((L.reverse.take j).map fun d=>(bK σ (bY s d.d)).reverse).flatten
theorem D3 {s:List ag} {L:List ar} {j m:Nat} {d:ar} (hm:m+j+1=L.length) (hd:L[m]?=some d):qh σ s L (j+1)=qh σ s L j++(bK σ (bY s d.d)).reverse:=by
 have h:L.reverse[j]?=some d:=by rw [List.getElem?_reverse (by omega),show L.length-1-j=m by omega];exact hd
 unfold qh
 rw [List.take_add_one,h];simp
theorem lG:∀(s:List ag) (n:Nat) (out:List ar) (d:ar),d∈cn σ s n out→d∈out∨∃x∈s,x.id=d
 | s,0,out,d,h=>.inl h
 | s,n+1,out,d,h=>by
  rw [cn] at h
  cases hf:s.find? (wu σ out) with
  | none=>rw [hf] at h;exact .inl h
  | some x =>
   rw [hf] at h
   rcases lG s n _ d h with h | h
   ·rcases List.mem_append.1 h with h | h
    ·exact .inl h
    ·exact .inr ⟨x,List.mem_of_find?_eq_some hf,(List.mem_singleton.1 h).symm⟩
   ·exact .inr h
theorem eQ:∀(s:List ag) (n:Nat) (out:List ar),(cn σ s n out).length≤out.length+n
 | s,0,out=>by rw [cn];omega
 | s,n+1,out=>by
  rw [cn]
  cases hf:s.find? (wu σ out) with
  | none=>simp only;omega
  | some x=>simp only;have:=eQ s n (out++[x.id]);simp at this;omega
end Go.Proofs.Ev
