/- Part 26 of the proof that quiltlaw38.BlameTouching returns true: no statement of its own. -/
import Derived.Test.YtbpaeodbnleoaaaGreatDoorT25
import Derived.Test.YtbpaeodbnleoaaaGreatDoorT21
import Derived.Test.YtbpaeodbnleoaaaGreatDoorT20
set_option linter.all false
namespace Go.Proofs.Ev
open Go.Proofs
variable {C:bG} {σ:aZ}
theorem zF (S:aA C) {X:ag} {m:Nat} {l:List (ar×AV)} (hm:X[m]?=some (.map (gL l))) (d:ar) {j:Nat} {v:AV} (hd:jR l d.d=some (j,v)):cu Tryz.prog C X 94 (.map m) (.agg d.cells) true=some (.tup [v,.bool true]):=by
 have hf:=ri S d l 0
 rw [hd] at hf
 simp only [cu,MP,qm S,iw,hm,hf,if_true]
 simp
def ka (out:List ar) (d:ar):List ar:=if bV out d.d then out else out++[d]
def jK (out l:List ar):List ar:=l.foldl ka out
theorem DR (out l:List ar) (d:ar):jK out (l++[d])=ka (jK out l) d:=by unfold jK;rw [List.foldl_append];rfl
theorem F6 (out:List ar) (d:ar):(ka out d).length≤out.length+1:=by unfold ka;split<;>simp
theorem yv:∀(l out:List ar),(jK out l).length≤out.length+l.length
 | [],out=>by simp [jK]
 | d::l,out=>by
  have h1:=yv l (ka out d)
  have h2:=F6 out d
  show (jK (ka out d) l).length≤_
  simp only [List.length_cons];omega
structure F2 (base lo bg gm bm m bo:Nat) (G:List (ar×AV)) (out:List ar) (X:ag):Prop where
 hg:ax X bg 0 1 0=some [.map gm]
 hG:X[gm]?=some (.map (gL G))
 hm:ax X bm 0 1 0=some [.map m]
 hM:X[m]?=some (.map (gL (gI out)))
 o:∃v,X[bo]?=some (.rows 1 0 [[v]])∧gC lo 32 X v (out.map ar.cells)
 low:base≤m∧base≤bo∧base≤lo∧bg<lo∧gm<lo∧bm<lo∧m<lo∧bo<lo∧lo≤X.length∧bg≠m∧bg≠bo∧gm≠m∧gm≠bo∧bm≠m∧bm≠bo∧m≠bo
theorem F2.app {base lo bg gm bm m bo:Nat} {G:List (ar×AV)} {out:List ar} {X:ag} (h:F2 base lo bg gm bm m bo G out X) (M:ag):F2 base lo bg gm bm m bo G out (X++M):=by
 obtain ⟨h1,h2,h3,h4,⟨v,h6,h7⟩,h8⟩:=h
 have hk:∀{b:Nat} {blk:bQ},X[b]?=some blk→(X++M)[b]?=some blk:=fun h=>by rw [List.getElem?_append_left (List.getElem?_eq_some_iff.1 h).1];exact h
 exact ⟨bH h1 M,hk h2,bH h3 M,hk h4,⟨v,hk h6,h7.app M⟩,by simp;omega⟩
set_option maxRecDepth 100000 in
set_option maxHeartbeats 4000000 in
theorem C1 (S:eR C σ) {base lo bg gm bm m bo:Nat} {G:List (ar×AV)} {out l:List ar} {k:SK} {X:ag} (h:F2 base lo bg gm bm m bo G out X) (hk:∀d∈l,∃j v,jR G d.d=some (j,v)∧v.leaf=true) (hl:l.length≤2^20) (ho:out.length≤2^30) :
 ∃X',F2 base lo bg gm bm m bo G (jK out l) X'∧∀K:AV→ag→Prop,aD Tryz.prog C base (.fn 67 [.ptr bg 0 1 0 0,.ptr bm 0 1 0 0,.ptr bo 0 1 0 0]) [aw k (l.map ar.cells)] X K=K (.bool true) X':=by
 suffices h:aD Tryz.prog C base (.fn 67 [.ptr bg 0 1 0 0,.ptr bm 0 1 0 0,.ptr bo 0 1 0 0]) [aw k (l.map ar.cells)] X (fun v X'=>v=.bool true∧F2 base lo bg gm bm m bo G (jK out l) X') by
  obtain ⟨n,v1,H1,h1,rfl,h2⟩:=h
  exact ⟨H1,h2,fun K=>aD.eq ⟨n,_,_,h1,rfl,rfl⟩ K⟩
 refine bn (S.plainY _ (by decide)).1 (S.plainY _ (by decide)).2 (am Tryz.func67 rfl (S.prim _ (by decide)) (by simp) (by kernel_rfl) ?_)
 unfold Tryz.f67
 simp [aG]
 refine az l.length (fun i s Y=>s 1=.ptr bg 0 1 0 0∧s 2=.ptr bm 0 1 0 0∧s 3=.ptr bo 0 1 0 0∧s 10=aw k (l.map ar.cells)∧s 11=.int .i64 l.length∧s 12=.int .i64 i∧F2 base lo bg gm bm m bo G (jK out (l.take i)) Y) ?_ ?_
 ·exact ⟨rfl,rfl,rfl,rfl,rfl,rfl,h⟩
 clear h X
 rintro i s X ⟨q1,q2,q3,q10,q11,q12,hR⟩ hi
 by_cases hil:i<l.length
 rotate_left
 ·have h':i=l.length:=by omega
  subst h'
  rw [List.take_length] at hR
  simp [q1,q2,q3,q10,q11,q12]
  exact hR
 obtain ⟨d,hd⟩:∃d,d=l[i]:=⟨_,rfl⟩
 obtain ⟨j,v,hp,hvl⟩:=hk d (hd▸List.getElem_mem hil)
 have hsn:jK out (l.take (i+1))=ka (jK out (l.take i)) d:=by rw [←DR,List.take_add_one,List.getElem?_eq_getElem hil,hd];rfl
 have hlen:=yv (l.take i) out
 have htk:(l.take i).length≤i:=by simp;omega
 obtain ⟨T,hT⟩:∃T,T=jK out (l.take i):=⟨_,rfl⟩
 rw [←hT] at hR hsn hlen
 have hbX:base≤X.length:=by have:=hR.low;omega
 have w12:=ay hil (by omega)
 have hd0:aP.length=32:=by decide
 refine cut (fun s Y=>s 1=.ptr bg 0 1 0 0∧s 2=.ptr bm 0 1 0 0∧s 3=.ptr bo 0 1 0 0∧s 10=aw k (l.map ar.cells)∧s 11=.int .i64 l.length∧s 12=.int .i64 i∧s 13=.bool true∧Y=X) ?_ ?_
 ·simp [q1,q2,q3,q10,q11,q12,hil]
 clear q1 q2 q3 q10 q11 q12
 rintro s X' ⟨q1,q2,q3,q10,q11,q12,q13,hXX⟩
 rw [hXX];clear hXX X'
 refine cut (fun s Y=>s 1=.ptr bg 0 1 0 0∧s 2=.ptr bm 0 1 0 0∧s 3=.ptr bo 0 1 0 0∧s 10=aw k (l.map ar.cells)∧s 11=.int .i64 l.length∧s 12=.int .i64 i∧Y=X) ?_ ?_
 ·simp [q1,q2,q3,q10,q11,q12,q13]
 clear q1 q2 q3 q10 q11 q12 q13
 rintro s X' ⟨q1,q2,q3,q10,q11,q12,hXX⟩
 rw [hXX];clear hXX X'
 refine cut (fun s Y=>s 1=.ptr bg 0 1 0 0∧s 2=.ptr bm 0 1 0 0∧s 3=.ptr bo 0 1 0 0∧s 10=aw k (l.map ar.cells)∧s 11=.int .i64 l.length∧s 12=.int .i64 i∧F2 base lo bg gm bm m bo G (ka T d) Y) ?_ ?_
 rotate_left
 ·rintro s Y ⟨q1,q2,q3,q10,q11,q12,hR⟩
  simp [q1,q2,q3,q10,q11,q12,w12]
  rw [hsn]
  exact ⟨hil,hR⟩
 rw [cq]
 refine cut (fun s Y=>s 1=.ptr bg 0 1 0 0∧s 2=.ptr bm 0 1 0 0∧s 3=.ptr bo 0 1 0 0∧s 10=aw k (l.map ar.cells)∧s 11=.int .i64 l.length∧s 12=.int .i64 i∧s 7=.ptr X.length 0 32 0 0∧Y=X++[.rows 32 0 [d.cells]]) ?_ ?_
 ·simp [q1,q2,q3,q10,q11,q12,hil,←hd,ao,aE,hbX,hd0]
 clear q1 q2 q3 q10 q11 q12
 rintro s Y ⟨q1,q2,q3,q10,q11,q12,q7,hY⟩
 have hR1:=hR.app [.rows 32 0 [d.cells]]
 rw [←hY] at hR1
 have hdr:ax Y X.length 0 32 0=some d.cells:=by rw [hY];simp
 clear hY hR
 have hlk:=zF S.toaA hR1.hG d hp
 have hlm:=rn S.toaA hR1.hM d
 have hgr:=hR1.hg
 have hmr:=hR1.hm
 refine cut (fun s Z=>s 1=.ptr bg 0 1 0 0∧s 2=.ptr bm 0 1 0 0∧s 3=.ptr bo 0 1 0 0∧s 10=aw k (l.map ar.cells)∧s 11=.int .i64 l.length∧s 12=.int .i64 i∧s 7=.ptr X.length 0 32 0 0∧s 9=.bool true∧Z=Y) ?_ ?_
 ·simp [q1,q2,q3,q10,q11,q12,q7,hgr,hdr,hlk,hvl]
 clear q1 q2 q3 q10 q11 q12 q7
 rintro s Z ⟨q1,q2,q3,q10,q11,q12,q7,q9,hZ⟩
 rw [hZ];clear hZ Z
 refine cut (fun s Z=>s 1=.ptr bg 0 1 0 0∧s 2=.ptr bm 0 1 0 0∧s 3=.ptr bo 0 1 0 0∧s 10=aw k (l.map ar.cells)∧s 11=.int .i64 l.length∧s 12=.int .i64 i∧s 7=.ptr X.length 0 32 0 0∧s 27=.bool (!bV T d.d)∧Z=Y) ?_ ?_
 ·simp [q1,q2,q3,q10,q11,q12,q7,q9,hmr,hdr,hlm]
 clear q1 q2 q3 q10 q11 q12 q7 q9
 rintro s Z ⟨q1,q2,q3,q10,q11,q12,q7,q27,hZ⟩
 rw [hZ];clear hZ Z
 cases hh:bV T d.d with
 | true =>
  have ha:ka T d=T:=by unfold ka;rw [hh];rfl
  rw [hh] at q27
  rw [ha]
  simp [q1,q2,q3,q10,q11,q12,q7,q27]
  exact hR1
 | false =>
  have ha:ka T d=T++[d]:=by unfold ka;rw [hh];rfl
  rw [hh] at q27
  rw [ha]
  obtain ⟨zg,zG,zm,zM,⟨u,zu,zS⟩,zlow⟩:=hR1
  have eu:=AJ S.toaA (base:=base) (by omega) zM d hh
  obtain ⟨Z1,hZ1⟩:∃Z1,Z1=Y.set m (.map (gL (gI (T++[d])))):=⟨_,rfl⟩
  rw [←hZ1] at eu
  have hmY:m<Y.length:=(List.getElem?_eq_some_iff.1 zM).1
  have k1:∀{b:Nat} {blk:bQ},b≠m→Y[b]?=some blk→Z1[b]?=some blk:=fun hb h=>by rw [hZ1,List.getElem?_set_ne (Ne.symm hb)];exact h
  have k1r:∀{b e:Nat} {r:List AV},b≠m→ax Y b 0 e 0=some r→ax Z1 b 0 e 0=some r:=fun hb h=>by
   unfold ax at h ⊢
   rw [hZ1,List.getElem?_set_ne (Ne.symm hb)];exact h
  have u1:=k1 (by omega) zu
  have g1:=k1r (by omega) zg
  have G1:=k1 (by omega) zG
  have m1:=k1r (by omega) zm
  have M1:Z1[m]?=some (.map (gL (gI (T++[d])))):=by rw [hZ1,List.getElem?_set_self hmY]
  have hYl:X.length<Y.length:=by
   unfold ax at hdr
   cases hx:Y[X.length]? with
   | none=>rw [hx] at hdr;cases hdr
   | some blk=>exact (List.getElem?_eq_some_iff.1 hx).1
  have hmX:X.length≠m:=by
   intro h
   rw [←h] at zM
   unfold ax at hdr
   rw [zM] at hdr;cases hdr
  have d1:=k1r hmX hdr
  have ur:ax Z1 bo 0 1 0=some [u]:=by simp [ax,u1]
  have S1:gC lo 32 Z1 u (T.map ar.cells):=zS.keep fun b g rs hb h=>k1 (by omega) h
  have len1:Z1.length=Y.length:=by rw [hZ1];simp
  obtain ⟨u2,Z2,ea,hS',hl',⟨b',g',l',hu'⟩,hk'⟩:=S1.append (P:=Tryz.prog) (base:=base) (ts:=#[30,30]) (e:=25) (xd:=.slice 25) (x:=.lst [d.cells] true) (ys:=[d.cells])
   (by simp) (by simp) nN A6 (by simp [hd0]) (by decide) (by omega) (by rw [len1];omega) rfl (by simp) (by simp) (by simp;omega)
  have hunot:∀b g l,u=.sl b g 32 0 l→lo≤b:=by
   intro b g l h1
   rcases S1 with ⟨_,h2⟩ | ⟨_,b2,g2,h2,h3,h4⟩
   ·rw [h1] at h2;cases h2
   ·rw [h1] at h2;cases h2;exact h4
  have hkz:∀{b:Nat} {blk:bQ},b<lo→Z1[b]?=some blk→Z2[b]?=some blk:=fun {b blk} h2 h=>(hk' b blk h fun b2 g l h3=>by have:=hunot b2 g l h3;omega).1
  have hkzr:∀{b e:Nat} {r:List AV},b<lo→ax Z1 b 0 e 0=some r→ax Z2 b 0 e 0=some r:=fun {b e r} hb h=>by
   unfold ax at h ⊢
   cases hx:Z1[b]? with
   | none=>rw [hx] at h;cases h
   | some blk=>rw [hx] at h;rw [hkz hb hx];exact h
  have hul:u2.leaf=true∧u2.cells=[u2]:=by rw [hu'];exact ⟨rfl,rfl⟩
  have hb3:base≤bo:=by omega
  have u3:=hkz (by omega) u1
  have l3:bo<Z2.length:=(List.getElem?_eq_some_iff.1 u3).1
  obtain ⟨Z3,hZ3⟩:∃Z3,Z3=Z2.set bo (.rows 1 0 [[u2]]):=⟨_,rfl⟩
  have est:ao Tryz.prog base Z2 30 (.ptr bo 0 1 0 0) u2=some Z3:=by
   rw [hZ3]
   simp [ao,u3,hul.1,hul.2,hb3]
  have k3:∀{b:Nat} {blk:bQ},b≠bo→Z2[b]?=some blk→Z3[b]?=some blk:=fun hb h=>by rw [hZ3,List.getElem?_set_ne (Ne.symm hb)];exact h
  have k3r:∀{b e:Nat} {r:List AV},b≠bo→ax Z2 b 0 e 0=some r→ax Z3 b 0 e 0=some r:=fun hb h=>by
   unfold ax at h ⊢
   rw [hZ3,List.getElem?_set_ne (Ne.symm hb)];exact h
  simp [q1,q2,q3,q10,q11,q12,q7,q27,zm,hdr,eu,ur,d1,aj,au,hd0,ea,est]
  refine ⟨k3r (by omega) (hkzr (by omega) g1),k3 (by omega) (hkz (by omega) G1),k3r (by omega) (hkzr (by omega) m1),k3 (by omega) (hkz (by omega) M1),⟨u2,by rw [hZ3,List.getElem?_set_self l3],?_⟩,by rw [hZ3];simp;omega⟩
  rw [List.map_append]
  exact hS'.keep fun b g rs hb h=>k3 (by omega) h
end Go.Proofs.Ev
namespace Go.Proofs.Ev
open Go.Proofs
variable {C:bG} {σ:aZ}
theorem zQ {α:Type} [DecidableEq α]:∀{l m:List α},l.Nodup→(∀x∈l,x∈m)→l.length≤m.length
 | [],m,_,_=>by simp
 | a::l,m,hn,hs=>by
  obtain ⟨h1,h2⟩:=List.nodup_cons.1 hn
  have ha:=hs a (by simp)
  have hlen:=List.length_erase_of_mem ha
  have hpos:0<m.length:=List.length_pos_of_mem ha
  have:=zQ (l:=l) (m:=m.erase a) h2 fun x hx=>(List.mem_erase_of_ne (fun e=>h1 (by rw [←e];exact hx))).2 (hs x (by simp [hx]))
  simp only [List.length_cons];omega
theorem Eu (out:List ar) (d:ar) (e:List Nat):bV (ka out d) e=(bV out e||decide (d.d=e)):=by
 unfold ka
 split
 ·rename_i h
  by_cases he:d.d=e
  ·rw [←he,h];simp
  ·simp [he]
 ·simp [bV]
theorem nZ:∀(l out:List ar) (e:List Nat),bV (jK out l) e=(bV out e||bV l e)
 | [],out,e=>by simp [jK,bV]
 | d::l,out,e=>by
  have:jK out (d::l)=jK (ka out d) l:=rfl
  rw [this,nZ l,Eu,vZ,Bool.or_assoc]
theorem F7 (out:List ar) (d:ar):∃r,ka out d=out++r:=by
 unfold ka
 split
 ·exact ⟨[],by simp⟩
 ·exact ⟨[d],rfl⟩
theorem te:∀(l out:List ar),∃r,jK out l=out++r
 | [],out=>⟨[],by simp [jK]⟩
 | d::l,out=>by
  obtain ⟨r,hr⟩:=F7 out d
  obtain ⟨t,ht⟩:=te l (ka out d)
  exact ⟨r++t,by show jK (ka out d) l=_;rw [ht,hr,List.append_assoc]⟩
theorem oR:∀(l out:List ar),(dh out).Nodup→(dh (jK out l)).Nodup
 | [],out,h=>h
 | d::l,out,h=>by
  refine oR l (ka out d) ?_
  unfold ka
  split
  ·exact h
  ·rename_i hh;exact re h (by simpa using hh)
theorem td:∀(l out:List ar),∀w∈jK out l,w∈out∨w∈l
 | [],out,w,h=>.inl h
 | d::l,out,w,h=>by
  rcases td l (ka out d) w h with h | h
  ·unfold ka at h
   split at h
   ·exact .inl h
   ·rcases List.mem_append.1 h with h | h
    ·exact .inl h
    ·exact .inr (by simp [List.mem_singleton.1 h])
  ·exact .inr (by simp [h])
structure DP (σ:aZ) (s0:List ah) (ids:List ar) (i:Nat) (out:List ar):Prop where
 ids:∀d∈ids,bV out d.d=true
 done:∀j,j<i→∀w,out[j]?=some w→∀x∈s0,x.id.d=w.d→∀e∈co σ x.patch,bV out e.d=true
 known:∀w∈out,∃y∈s0,y.id.d=w.d
 nodup:(dh out).Nodup
theorem DP.len {s0:List ah} {ids out:List ar} {i:Nat} (h:DP σ s0 ids i out):out.length≤s0.length:=by
 have:=zQ (m:=s0.map fun x=>x.id.d) h.nodup fun d hd=>by
  obtain ⟨w,hw,rfl⟩:=List.mem_map.1 hd
  obtain ⟨y,hy,hyw⟩:=h.known w hw
  exact List.mem_map.2 ⟨y,hy,hyw⟩
 simpa [dh] using this
theorem DP.first {s0:List ah} {ids:List ar} (hk:∀d∈ids,∃y∈s0,y.id.d=d.d):DP σ s0 ids 0 (jK [] ids):={
 ids d hd:=by rw [nZ,da.2 ⟨d,hd,rfl⟩];simp
 done j hj:=by omega
 known w hw:=by
  rcases td ids [] w hw with h | h
  ·simp at h
  ·exact hk w h
 nodup:=oR ids [] (by simp [dh]) }
theorem DP.next {s0:List ah} (hu:s0.Pairwise fun x y=>x.id.d≠y.id.d) {ids out:List ar} {i:Nat} (h:DP σ s0 ids i out) {w:ar} (hw:out[i]?=some w) {x:ah} (hx:x∈s0) (hxw:x.id.d=w.d) (hn:∀e∈co σ x.patch,∃y∈s0,y.id.d=e.d):DP σ s0 ids (i+1) (jK out (co σ x.patch)):={
 ids d hd:=by rw [nZ,h.ids d hd];rfl
 done j hj w' hw' y hy hyw e he:=by
  obtain ⟨r,hr⟩:=te (co σ x.patch) out
  have hil:i<out.length:=(List.getElem?_eq_some_iff.1 hw).1
  rw [hr,List.getElem?_append_left (by omega)] at hw'
  rw [nZ]
  by_cases hji:j=i
  ·subst hji
   rw [hw] at hw'
   cases hw'
   have:y=x:=uniq hu hy hx (by rw [hyw,hxw])
   subst this
   rw [da.2 ⟨e,he,rfl⟩];simp
  ·rw [h.done j (by omega) w' hw' y hy hyw e he];rfl
 known w hw:=by
  rcases td _ _ w hw with h1 | h1
  ·exact h.known w h1
  ·exact hn w h1
 nodup:=oR _ _ h.nodup }
structure va (σ:aZ) (s0:List ah) (ids c:List ar):Prop where
 ids:∀d∈ids,bV c d.d=true
 needs:∀x∈s0,bV c x.id.d=true→∀e∈co σ x.patch,bV c e.d=true
 len:c.length≤s0.length
theorem DP.end {s0:List ah} {ids out c:List ar} (h:DP σ s0 ids out.length out) (hc:c.Perm out):va σ s0 ids c:=by
 have hp:∀d,bV c d=bV out d:=fun d=>by
  rw [Bool.eq_iff_iff,da,da]
  exact ⟨fun ⟨x,h1,h2⟩=>⟨x,hc.mem_iff.1 h1,h2⟩,fun ⟨x,h1,h2⟩=>⟨x,hc.mem_iff.2 h1,h2⟩⟩
 refine ⟨fun d hd=>by rw [hp];exact h.ids d hd,fun x hx hh e he=>?_,by rw [hc.length_eq];exact h.len⟩
 rw [hp] at hh ⊢
 obtain ⟨w,hw,hwx⟩:=da.1 hh
 obtain ⟨j,hj⟩:=List.getElem?_of_mem hw
 exact h.done j (List.getElem?_eq_some_iff.1 hj).1 w hj x hx hwx.symm e he
set_option maxRecDepth 100000 in
set_option maxHeartbeats 4000000 in
theorem Ch (S:eR C σ) {s0:List ah} {k2:SK} {ids:List ar} (hs:b8 s0) (hne:ids≠[]) (hids:∀d∈ids,∃x∈s0,x.id.d=d.d) (hil:ids.length≤2^20) (hnd:∀x∈s0,∀e∈co σ x.patch,∃y∈s0,y.id.d=e.d) {base gm:Nat} {X:ag} (hb:base≤X.length) (hG:X[gm]?=some (.map (gL (dM σ s0)))) :
 ∃c b g X',va σ s0 ids c∧c≠[]∧X'[b]?=some (.rows 32 g (c.map ar.cells))∧X.length≤b∧∀K:AV→ag→Prop,aD Tryz.prog C base (.fn 30 []) [.map gm,aw k2 (ids.map ar.cells)] X K=K (.tup [.sl b g 32 0 c.length,.bool true]) X':=by
 suffices h:aD Tryz.prog C base (.fn 30 []) [.map gm,aw k2 (ids.map ar.cells)] X (fun v X'=>∃c b g,va σ s0 ids c∧c≠[]∧X'[b]?=some (.rows 32 g (c.map ar.cells))∧X.length≤b∧v=.tup [.sl b g 32 0 c.length,.bool true]) by
  obtain ⟨n,v1,H1,h1,c,b,g,h2,h3,h4,h5,rfl⟩:=h
  exact ⟨c,b,g,H1,h2,h3,h4,h5,fun K=>aD.eq ⟨n,_,_,h1,rfl,rfl⟩ K⟩
 refine bn (S.plainY _ (by decide)).1 (S.plainY _ (by decide)).2 (am Tryz.func30 rfl (S.prim _ (by decide)) (by simp) (by kernel_rfl) ?_)
 unfold Tryz.f30
 have hgl:gm<X.length:=(List.getElem?_eq_some_iff.1 hG).1
 obtain ⟨v,hv⟩:∃v,v=aw k2 (ids.map ar.cells):=⟨_,rfl⟩
 rw [←hv]
 have hnm:AV.nilm.cells.length=1:=rfl
 have hnt:AV.nilm.cells.tail=[]:=rfl
 have b2:base≤X.length+2:=by omega
 refine cut (fun s Z=>s 1=v∧s 2=.ptr X.length 0 1 0 0∧Z=X++[.rows 1 0 [[.map gm]]]) ?_ ?_
 ·simp [aG]
 rintro s Z ⟨q1,q2,rfl⟩
 refine cut (fun s Z=>s 1=v∧s 2=.ptr X.length 0 1 0 0∧s 6=.ptr (X.length+2) 0 1 0 0∧Z=X++[.rows 1 0 [[.map gm]],.map [],.rows 1 0 [[.map (X.length+1)]]]) ?_ ?_
 ·simp [q1,q2,ao,hnm,hnt,b2]
 clear q1 q2
 rintro s Z ⟨q1,q2,q6,rfl⟩
 refine cut (fun s Z=>s 1=v∧s 2=.ptr X.length 0 1 0 0∧s 6=.ptr (X.length+2) 0 1 0 0∧s 7=.ptr (X.length+3) 0 1 0 0∧Z=X++[.rows 1 0 [[.map gm]],.map [],.rows 1 0 [[.map (X.length+1)]],.rows 1 0 [[.nils]]]) ?_ ?_
 ·simp [q1,q2,q6]
 clear q1 q2 q6
 rintro s Z ⟨q1,q2,q6,q7,hZ⟩
 have g0:Z[X.length]?=some (.rows 1 0 [[.map gm]]):=by rw [hZ,tg];rfl
 have g1:Z[X.length+1]?=some (.map []):=by rw [hZ,bt];rfl
 have g2:Z[X.length+2]?=some (.rows 1 0 [[.map (X.length+1)]]):=by rw [hZ,bt];rfl
 have g3:Z[X.length+3]?=some (.rows 1 0 [[.nils]]):=by rw [hZ,bt];rfl
 have hZl:Z.length=X.length+4:=by rw [hZ];simp
 have hR0:F2 base (X.length+4) X.length gm (X.length+2) (X.length+1) (X.length+3) (dM σ s0) [] Z :=
  ⟨by simp [ax,g0],by rw [hZ,List.getElem?_append_left hgl];exact hG,by simp [ax,g2],g1,⟨.nils,g3,.inl ⟨rfl,rfl⟩⟩,by omega⟩
 clear hZ g0 g1 g2 g3
 have hpos:∀{d:ar},(∃x∈s0,x.id.d=d.d)→∃j v,jR (dM σ s0) d.d=some (j,v)∧v.leaf=true:=fun {d} ⟨x,hx,hxd⟩=>by
  obtain ⟨j,hj⟩:=rD (σ:=σ) hs.2.1 hx
  rw [hxd] at hj
  exact ⟨j,_,hj,by simp⟩
 obtain ⟨f,hf⟩:∃f,f=AV.fn 67 [.ptr X.length 0 1 0 0,.ptr (X.length+2) 0 1 0 0,.ptr (X.length+3) 0 1 0 0]:=⟨_,rfl⟩
 refine cut (fun s Z'=>s 1=v∧s 2=.ptr X.length 0 1 0 0∧s 7=.ptr (X.length+3) 0 1 0 0∧s 8=f∧Z'=Z) ?_ ?_
 ·simp [q1,q2,q6,q7,hf]
 clear q1 q2 q6 q7
 rintro s Z' ⟨q1,q2,q7,q8,hZ'⟩
 rw [hZ'];clear hZ' Z'
 obtain ⟨X1,hR1,e1⟩:=C1 S (k:=k2) hR0 (fun d hd=>hpos (hids d hd)) hil (by simp)
 rw [←hv,←hf] at e1
 have hV1:=DP.first (σ:=σ) hids
 refine cut (fun s Z'=>s 2=.ptr X.length 0 1 0 0∧s 7=.ptr (X.length+3) 0 1 0 0∧s 8=f∧Z'=X1) ?_ ?_
 ·simp [q1,q2,q7,q8,e1]
 clear q1 q2 q7 q8
 rintro s Z' ⟨q2,q7,q8,hZ'⟩
 rw [hZ'];clear hZ' Z'
 have hne1:∀{i:Nat} {out:List ar},DP σ s0 ids i out→out≠[]:=fun {i out} h h0=>by
  obtain ⟨d,hd⟩:=List.exists_mem_of_ne_nil ids hne
  have:=h.ids d hd
  rw [h0] at this;cases this
 have hs20:=hs.2.2
 refine cut (fun s Z'=>s 7=.ptr (X.length+3) 0 1 0 0∧∃out,DP σ s0 ids out.length out∧F2 base (X.length+4) X.length gm (X.length+2) (X.length+1) (X.length+3) (dM σ s0) out Z') ?_ ?_
 ·refine cut (fun s Z'=>s 2=.ptr X.length 0 1 0 0∧s 7=.ptr (X.length+3) 0 1 0 0∧s 8=f∧s 9=.int .i64 0∧Z'=X1) ?_ ?_
  ·simp [q2,q7,q8]
  clear q2 q7 q8
  rintro s Z' ⟨q2,q7,q8,q9,hZ'⟩
  rw [hZ'];clear hZ' Z'
  rw [cq,iW]
  refine cn (fun s Z'=>s 2=.ptr X.length 0 1 0 0∧s 7=.ptr (X.length+3) 0 1 0 0∧s 8=f∧∃(i:Nat) (out:List ar),s 9=.int .i64 i∧i≤out.length∧DP σ s0 ids i out∧F2 base (X.length+4) X.length gm (X.length+2) (X.length+1) (X.length+3) (dM σ s0) out Z') (fun s _=>s0.length+1-vm (s 9)) ?_ ?_
  ·exact ⟨q2,q7,q8,0,_,q9,Nat.zero_le _,hV1,hR1⟩
  clear q2 q7 q8 q9
  rintro s Z' ⟨q2,q7,q8,i,out,q9,hio,hV,hR⟩
  have hs9:vm (s 9)=i:=by rw [q9];simp
  have hon:=hne1 hV
  have hol:=hV.len
  obtain ⟨u,hu,hS⟩:=hR.o
  obtain ⟨b,g,hub,hbk,hlo⟩:∃b g,u=.sl b g 32 0 out.length∧Z'[b]?=some (.rows 32 g (out.map ar.cells))∧X.length+4≤b:=by
   rcases hS with ⟨h0,_⟩ | ⟨_,b,g,h1,h2,h3⟩
   ·exact absurd (List.map_eq_nil_iff.1 h0) hon
   ·exact ⟨b,g,by rw [h1,List.length_map],h2,h3⟩
  have ur:ax Z' (X.length+3) 0 1 0=some [u]:=by simp [ax,hu]
  rw [hub] at ur
  by_cases hlt:i<out.length
  rotate_left
  ·have h':i=out.length:=by omega
   subst h'
   simp [q2,q7,q8,q9,ur]
   exact ⟨_,hV,hR⟩
  obtain ⟨w,hw⟩:∃w,out[i]?=some w:=⟨_,List.getElem?_eq_getElem hlt⟩
  have hwm:=List.mem_of_getElem? hw
  obtain ⟨x,hx,hxw⟩:=hV.known w hwm
  obtain ⟨j,hj⟩:=rD (σ:=σ) hs.2.1 hx
  rw [hxw] at hj
  have hlk:=um S.toaA hR.hG w hj
  have hnl:=uq S.permD (hs.1 x hx)
  obtain ⟨X2,hR2,e2⟩:=C1 S (k:=if cW x.patch=[] then .exact else .loose) hR (fun d hd=>hpos (hnd x hx d hd)) hnl (by omega)
  rw [←hf] at e2
  have hV2:=hV.next hs.2.1 hw hx hxw (hnd x hx)
  obtain ⟨nv,hnv⟩:∃nv,nv=aw (if cW x.patch=[] then .exact else .loose) ((co σ x.patch).map ar.cells):=⟨_,rfl⟩
  have hnvl:nv.leaf=true:=by rw [hnv];simp
  rw [←hnv] at hlk e2
  have hrow:ax Z' b g 32 i=some w.cells:=by
   rw [eL hbk];simp [hw]
  have gr:=hR.hg
  have hl2:i+1≤(jK out (co σ x.patch)).length:=by
   obtain ⟨r,hr⟩:=te (co σ x.patch) out
   rw [hr];simp;omega
  have w9:=ay hlt (by omega)
  refine cut (fun s Z2=>s 2=.ptr X.length 0 1 0 0∧s 7=.ptr (X.length+3) 0 1 0 0∧s 8=f∧s 9=.int .i64 i∧Z2=Z') ?_ ?_
  ·simp [q2,q7,q8,q9,ur,hlt]
  clear q2 q7 q8 q9
  rintro s Z2 ⟨q2,q7,q8,q9,hZ2⟩
  rw [hZ2];clear hZ2 Z2
  refine cut (fun s Z2=>s 2=.ptr X.length 0 1 0 0∧s 7=.ptr (X.length+3) 0 1 0 0∧s 8=f∧s 9=.int .i64 i∧Z2=X2) ?_ ?_
  ·simp [q2,q7,q8,q9,gr,ur,hlt,hrow,hlk,hnvl,e2]
   rw [aN (h:=by kernel_rfl)]
   simp [q2,q7,q8,q9]
  clear q2 q7 q8 q9
  rintro s Z2 ⟨q2,q7,q8,q9,hZ2⟩
  rw [hZ2];clear hZ2 Z2
  simp [q2,q7,q8,q9,w9]
  exact ⟨⟨i+1,by simp,_,hl2,hV2,hR2⟩,by omega⟩
 clear q2 q7 q8 hR1 hR0 e1 X1
 rintro s Z' ⟨q7,out,hV,hR⟩
 have hon:=hne1 hV
 have hol:=hV.len
 obtain ⟨u,hu,hS⟩:=hR.o
 obtain ⟨b,g,hub,hbk,hlo⟩:∃b g,u=.sl b g 32 0 out.length∧Z'[b]?=some (.rows 32 g (out.map ar.cells))∧X.length+4≤b:=by
  rcases hS with ⟨h0,_⟩ | ⟨_,b,g,h1,h2,h3⟩
  ·exact absurd (List.map_eq_nil_iff.1 h0) hon
  ·exact ⟨b,g,by rw [h1,List.length_map],h2,h3⟩
 have ur:ax Z' (X.length+3) 0 1 0=some [u]:=by simp [ax,hu]
 rw [hub] at ur
 have hbl:b<Z'.length:=(List.getElem?_eq_some_iff.1 hbk).1
 have es:=fun K=>S.sortD (base:=base) (H:=Z') (b:=b) (g:=g) (l:=out) (by omega) (by omega) hbk K
 obtain ⟨Z3,hZ3⟩:∃Z3,Z3=Z'.set b (.rows 32 g ((σ.d out).map ar.cells)):=⟨_,rfl⟩
 rw [←hZ3] at es
 have ur3:ax Z3 (X.length+3) 0 1 0=some [.sl b g 32 0 out.length]:=by
  rw [hZ3]
  unfold ax at ur ⊢
  rw [List.getElem?_set_ne (by omega)];exact ur
 have hp:=S.permD out
 simp [q7,ur,es,ur3]
 refine ⟨σ.d out,hV.end hp,fun h=>hon (by rw [h] at hp;exact (hp.symm).eq_nil),b,g,?_,by omega,rfl,rfl,hp.length_eq.symm⟩
 rw [hZ3,List.getElem?_set_self hbl]
theorem yA (S:eR C σ) {s0:List ah} {k k2:SK} {ids:List ar} (hs:b8 s0) (hne:ids≠[]) (hids:∀d∈ids,∃x∈s0,x.id.d=d.d) (hil:ids.length≤2^20) (hnd:∀x∈s0,∀e∈co σ x.patch,∃y∈s0,y.id.d=e.d) (base:Nat) (H:ag) :
 ∃c,va σ s0 ids c∧∀K:AV→ag→Prop,aD Tryz.prog C base (.fn 10 []) [aw k (s0.map ah.cells),aw k2 (ids.map ar.cells)] H K=K (.tup [aw .loose (c.map ar.cells),.int .i64 0]) H:=by
 suffices h:∃v,(∃c,va σ s0 ids c∧v=.tup [aw .loose (c.map ar.cells),.int .i64 0])∧∀K:AV→ag→Prop,aD Tryz.prog C base (.fn 10 []) [aw k (s0.map ah.cells),aw k2 (ids.map ar.cells)] H K=K v H by
  obtain ⟨v,⟨c,h1,rfl⟩,h2⟩:=h
  exact ⟨c,h1,h2⟩
 refine Gs (Kr (S.pureY _ (by decide)) (fun H=>?_) base H)
 refine am Tryz.func10 rfl (S.prim _ (by decide)) (by simp) (by kernel_rfl) ?_
 unfold Tryz.f10
 obtain ⟨J,eg⟩:=zq S.tobB s0 k hs (base:=H.length) (H:=H) (Nat.le_refl _)
 obtain ⟨c,b,g,X',h1,h2,h3,h4,er⟩:=Ch S (k2:=k2) hs hne hids hil hnd (base:=H.length) (gm:=H.length) (X:=H++.map (gL (dM σ s0))::J) (by simp) (by simp)
 have hf:=fF (k:=H.length) (d:=1) h3 (by simp at h4;omega) (aM ar.closed c)
 rw [List.length_map] at hf
 have hsl:AV.lst (c.map ar.cells) false=aw .loose (c.map ar.cells):=by cases c<;>rfl
 rw [hsl] at hf
 simp [aG,eg,er]
 exact ⟨_,bN hf (by simp),c,h1,rfl⟩
end Go.Proofs.Ev
namespace Go.Proofs.Ev
open Go.Proofs
variable {C:bG}
def cd:List fX→List fX
 | a::b::l=>if a=b then cd (b::l) else a::cd (b::l)
 | l=>l
theorem nU:∀l:List fX,(cd l).length≤l.length∧(l≠[]→cd l≠[])
 | []=>by simp [cd]
 | [a]=>by simp [cd]
 | a::b::l=>by
  have ih:=nU (b::l)
  rw [cd]
  split
  ·exact ⟨by have:=ih.1;simp at this ⊢;omega,fun _=>ih.2 (by simp)⟩
  ·exact ⟨by have:=ih.1;simp at this ⊢;omega,fun _=>by simp⟩
theorem tH:∀(l:List fX) (a b:fX),cd (l++[a,b])=if a=b then cd (l++[a]) else cd (l++[a])++[b]
 | [],a,b=>by
  show cd [a,b]=if a=b then cd [a] else cd [a]++[b]
  simp only [cd]
  split
  ·rename_i h;rw [h]
  ·rfl
 | x::l,a,b=>by
  have ih:=tH l a b
  obtain ⟨y,r,hr⟩:∃y r,l++[a]=y::r:=by cases l with
   | nil=>exact ⟨_,_,rfl⟩
   | cons y l=>exact ⟨_,_,rfl⟩
  have hr2:l++[a,b]=y::(r++[b]):=by
   have:l++[a,b]=(l++[a])++[b]:=by simp
   rw [this,hr];rfl
  rw [hr,hr2] at ih
  rw [List.cons_append,List.cons_append,hr,hr2,cd,cd,ih]
  by_cases h1:x=y<;>by_cases h2:a=b<;>simp [h1,h2]
theorem tI {l:List fX} {m:Nat} (h0:1≤m) (h:m<l.length):cd (l.take (m+1))=if l[m]=l[m-1] then cd (l.take m) else cd (l.take m)++[l[m]]:=by
 obtain ⟨k,rfl⟩:∃k,m=k+1:=⟨m-1,by omega⟩
 have e1:l.take (k+1)=l.take k++[l[k]]:=by rw [List.take_add_one,List.getElem?_eq_getElem (by omega)];rfl
 have e2:l.take (k+1+1)=l.take k++[l[k],l[k+1]]:=by rw [List.take_add_one,List.getElem?_eq_getElem h,e1,List.append_assoc];rfl
 rw [e2,tH,e1]
 simp only [Nat.add_sub_cancel]
 by_cases hq:l[k]=l[k+1]
 ·rw [if_pos hq,if_pos hq.symm]
 ·rw [if_neg hq,if_neg (Ne.symm hq)]
theorem Ju (hk:C.kinds 51=some [.int .i64,.int .i64]) (a b:fX):pI Tryz.prog C 51 (.agg a.cells) (.agg b.cells)=some (decide (a=b)):=by
 have h1:∀a:fX,dq [.int .i64,.int .i64] a.cells=true:=fun _=>rfl
 simp only [pI,hk,h1,Bool.and_self,if_true]
 congr 1
 rw [Bool.eq_iff_iff]
 simp [fX.cells,bP]
 cases a;cases b
 simp [mc]
def zE:List AV:=[.int .i64 0,.int .i64 0]
def eJ (l:List fX) (m:Nat):List (List AV):=(cd (l.take m)++l.drop (cd (l.take m)).length).map fX.cells
theorem Bj (l:List fX) {m:Nat} (hm:m≤l.length):(eJ l m).length=l.length:=by
 have:=(nU (l.take m)).1
 simp [eJ] at this ⊢
 omega
theorem pa (l:List fX) {m j:Nat} (hj:(cd (l.take m)).length≤j) (h:j<l.length):(eJ l m)[j]?=some l[j].cells:=by
 unfold eJ
 rw [List.getElem?_map,List.getElem?_append_right hj,List.getElem?_drop,show (cd (l.take m)).length+(j-(cd (l.take m)).length)=j by omega,List.getElem?_eq_getElem h]
 rfl
theorem Bk (l:List fX) {m:Nat} (hm:m<l.length) (hc:(cd (l.take m)).length<l.length) (hn:cd (l.take (m+1))=cd (l.take m)++[l[m]]) :
 (eJ l m).set (cd (l.take m)).length l[m].cells=eJ l (m+1):=by
 unfold eJ
 rw [hn]
 generalize cd (l.take m)=c at *
 rw [List.map_append,List.set_append_right _ _ (by simp),List.length_map,Nat.sub_self,List.drop_eq_getElem_cons hc,List.map_cons,List.set_cons_zero]
 simp
theorem Az {b g len k:Nat} (h:k<len):cX Tryz.prog 41 (.sl b g 2 0 len) (some (.int .i64 (k:Int))) none none=some (.sl b g 2 k (len-k)):=by
 have hu:Program.underlying Tryz.prog 41=some (.slice 51):=by simp
 unfold cX
 simp only [hu,CT,if_true,bJ,xy (show k<len+1 by omega),Option.map_some,Nat.zero_add]
 rw [if_neg (by omega)]
theorem MH {b g len k:Nat} (h0:0<k) (h:k≤len):cX Tryz.prog 41 (.sl b g 2 0 len) none (some (.int .i64 (k:Int))) none=some (.sl b g 2 0 k):=by
 have hu:Program.underlying Tryz.prog 41=some (.slice 51):=by simp
 unfold cX
 simp only [hu,CT,if_true,bJ,xy (show k<len+1 by omega),Option.map_some,Nat.zero_add,Nat.sub_zero]
 rw [if_neg (by omega)]
set_option maxRecDepth 100000 in
set_option maxHeartbeats 2000000 in
theorem vc (hp:C.prim 28=none) (hk:C.kinds 51=some [.int .i64,.int .i64]) {base:Nat} {H:ag} {b g:Nat} {l:List fX} (hb:base≤b) (hg:H[b]?=some (.rows 2 g (l.map fX.cells))) (hl:l.length≤2^40) :
 dW Tryz.prog C base 28 [.sl b g 2 0 l.length] H fun v X=>v=.sl b g 2 0 (cd l).length∧X=H.set b (.rows 2 g ((cd l).map fX.cells++List.replicate (l.length-(cd l).length) zE)):=by
 refine am Tryz.func28 rfl hp (by simp) (by kernel_rfl) ?_
 unfold Tryz.f28
 have hset:H.set b (.rows 2 g (l.map fX.cells))=H:=by
  apply List.ext_getElem?
  intro k
  by_cases hk:b=k
  ·subst hk
   rw [List.getElem?_set_self (List.getElem?_eq_some_iff.1 hg).1,hg]
  ·rw [List.getElem?_set_ne hk]
 have same:cd l=l→l.length=(cd l).length∧H=H.set b (.rows 2 g ((cd l).map fX.cells++List.replicate (l.length-(cd l).length) zE)):=by
  intro hc
  rw [hc]
  refine ⟨rfl,?_⟩
  rw [Nat.sub_self,List.replicate_zero,List.append_nil,hset]
 have hbin:∀(x y:fX) (neg:Bool),bU Tryz.prog C (if neg then .neq else .eql) 51 (.agg x.cells) (.agg y.cells)=some (.bool (if neg then !decide (x=y) else decide (x=y))):=by
  intro x y neg
  have:=Ju hk x y
  cases neg<;>simp [bU,this]
 have hE:=fun x y=>hbin x y false
 have hN:=fun x y=>hbin x y true
 simp only [if_true,Bool.false_eq_true,if_false] at hE hN
 simp [aG]
 refine ⟨fun h2=>?_,fun h2=>?_⟩
 ·refine same ?_
  match l,h2 with
  | [],_=>rfl
  | [a],_=>rfl
  | a::b::l,h=>simp at h;omega
 have h2':2≤l.length:=by omega
 refine az l.length (fun i s X=>s 0=.sl b g 2 0 l.length∧s 3=.int .i64 ((i:Int)+1)∧X=H∧i+1≤l.length∧cd (l.take (i+1))=l.take (i+1)) ?_ ?_
 ·refine ⟨rfl,rfl,rfl,by omega,?_⟩
  match l with
  | []=>rfl
  | a::l=>rfl
 rintro i s X ⟨q0,q3,rfl,hil,hcl⟩ hi
 by_cases h:i+1<l.length
 ·have hi0:i<l.length:=by omega
  have r1:ax X b g 2 (i+1)=some l[i+1].cells:=by rw [eL hg];simp [h]
  have r0:ax X b g 2 i=some l[i].cells:=by rw [eL hg];simp [hi0]
  have hlt:(i:Int)+1<l.length:=by omega
  have w0:IntKind.i64.wrap (i:Int)=i:=gy (by omega)
  have w1:IntKind.i64.wrap ((i:Int)+1+1)=(i:Int)+1+1:=aK (by omega) (by omega)
  have d1:l[i+1].cells.length=2:=rfl
  have d0:l[i].cells.length=2:=rfl
  have t1:List.take 2 l[i+1].cells=l[i+1].cells:=rfl
  have t0:List.take 2 l[i].cells=l[i].cells:=List.take_of_length_le (by simp [dig,d0])
  have hp:(0:Int)≤(i:Int)+1:=by omega
  have hil2:(i:Int)<l.length:=by omega
  have ht:=tI (l:=l) (m:=i+1) (by omega) h
  simp only [Nat.add_sub_cancel] at ht
  by_cases he:l[i+1]=l[i]
  ·rw [if_pos he,hcl] at ht
   have hle:(i:Int)+1≤l.length:=by omega
   have hne:¬(l.length=i+1):=by omega
   have sl1:=Az (b:=b) (g:=g) h
   have hcast:((i+1:Nat):Int)=(i:Int)+1:=by omega
   rw [hcast] at sl1
   simp [q0,q3,hlt,r1,r0,hE,w0,d0,t0,hp,hil2,he,sl1]
   obtain ⟨K,hK⟩:∃K,K=i+1:=⟨_,rfl⟩
   have hKi:(i:Int)+1=(K:Int):=by omega
   rw [hKi]
   rw [←hK] at ht h ⊢
   have hb0:b<X.length:=(List.getElem?_eq_some_iff.1 hg).1
   have hKl:(cd (l.take (K+1))).length=K:=by rw [ht,List.length_take];omega
   clear sl1 hcast w0 w1 hp hil2 hcl hlt
   rw [hKi] at q3
   refine az l.length (fun j s Y=>s 0=.sl b g 2 0 l.length∧s 4=.sl b g 2 K (l.length-K)∧s 5=.int .i64 ((j:Int)+1)∧s 3=.int .i64 ((cd (l.take (K+j+1))).length:Nat)∧Y=X.set b (.rows 2 g (eJ l (K+j+1)))∧K+j+1≤l.length∧(cd (l.take (K+j+1))).length≤K+j∧0<(cd (l.take (K+j+1))).length) ?_ ?_
   ·refine ⟨by simpa using q0,by simp,by simp,?_,?_,by omega,?_,?_⟩
    ·rw [Nat.add_zero,hKl];simpa using q3
    ·rw [Nat.add_zero]
     unfold eJ
     rw [hKl,ht,List.take_append_drop,hset]
    ·rw [Nat.add_zero,hKl];omega
    ·rw [Nat.add_zero,hKl];omega
   rintro j s Y ⟨q0,q4,q5,q3,rfl,hm,hc1,hc0⟩ hj
   have hX:(X.set b (.rows 2 g (eJ l (K+j+1))))[b]?=some (.rows 2 g (eJ l (K+j+1))):=by rw [List.getElem?_set_self hb0]
   obtain ⟨c,hcd⟩:∃c,c=(cd (l.take (K+j+1))).length:=⟨_,rfl⟩
   rw [←hcd] at q3 hc1 hc0
   have hlk:((l.length-K:Nat):Int)=(l.length:Int)-K:=by omega
   by_cases hj2:j+1<l.length-K
   ·have hm2:K+j+1<l.length:=by omega
    have hm0:K+j<l.length:=by omega
    have r1:ax (X.set b (.rows 2 g (eJ l (K+j+1)))) b g 2 (K+(j+1))=some l[K+j+1].cells:=by
     rw [eL hX];exact pa l (by omega) hm2
    have r0:ax (X.set b (.rows 2 g (eJ l (K+j+1)))) b g 2 (K+j)=some l[K+j].cells:=by
     rw [eL hX];exact pa l (by omega) hm0
    have hlt:(j:Int)+1<((l.length-K:Nat):Int):=by omega
    have w0:IntKind.i64.wrap (j:Int)=j:=gy (by omega)
    have w1:IntKind.i64.wrap ((j:Int)+1+1)=(j:Int)+1+1:=aK (by omega) (by omega)
    have w2:IntKind.i64.wrap ((c:Int)+1)=(c:Int)+1:=aK (by omega) (by omega)
    have d1:l[K+j+1].cells.length=2:=rfl
    have d0:l[K+j].cells.length=2:=rfl
    have t1:List.take 2 l[K+j+1].cells=l[K+j+1].cells:=rfl
    have t0:List.take 2 l[K+j].cells=l[K+j].cells:=List.take_of_length_le (by simp [dig,d0])
    have hp:(0:Int)≤(j:Int)+1:=by omega
    have hjl:(j:Int)<((l.length-K:Nat):Int):=by omega
    have ht:=tI (l:=l) (m:=K+j+1) (by omega) hm2
    simp only [Nat.add_sub_cancel] at ht
    have hcl:(c:Int)<l.length:=by omega
    by_cases he:l[K+j+1]=l[K+j]
    ·rw [if_pos he] at ht
     have hR:eJ l (K+j+1+1)=eJ l (K+j+1):=by unfold eJ;rw [ht]
     simp [q0,q3,q4,q5,hlt,r1,r0,hN,w0,w1,d0,t0,hp,hjl,he]
     rw [show K+(j+1)+1=K+j+1+1 by omega,ht,hR,←hcd]
     exact ⟨by omega,rfl,rfl,by omega,by omega,by omega⟩
    ·rw [if_neg he] at ht
     have hcl2:c<l.length:=by omega
     have hst:ao Tryz.prog base (X.set b (.rows 2 g (eJ l (K+j+1)))) 51 (.ptr b g 2 c 0) (.agg l[K+j+1].cells)=some (X.set b (.rows 2 g (eJ l (K+j+1+1)))):=by
      have hrow:(eJ l (K+j+1))[c]?=some l[c].cells:=pa l (by omega) hcl2
      have hl32:l[c].cells.length=2:=rfl
      have hlf:∀y∈l[K+j+1].cells,y.leaf=true:=by intro y hy;simp only [fX.cells,List.mem_cons,List.not_mem_nil,or_false] at hy;rcases hy with rfl | rfl<;>rfl
      have hcs:=Bk l hm2 (by rw [←hcd];exact hcl2) ht
      rw [←hcd] at hcs
      have hdr:List.drop 2 l[c].cells=[]:=List.drop_eq_nil_of_le (by omega)
      have hd32:l[K+j+1].cells.length=2:=rfl
      unfold ao
      simp only [CT,AV.cells,hX,hrow,hl32,hd32]
      rw [if_pos ⟨hb,trivial,by rw [List.all_eq_true];exact hlf⟩,if_pos ⟨trivial,trivial⟩,if_pos (by omega),List.take_zero,List.nil_append,Nat.zero_add,hdr,List.append_nil,hcs,List.set_set]
     simp [q0,q3,q4,q5,hlt,r1,r0,hN,w0,w1,w2,d1,d0,t1,t0,hp,hjl,he,hcl,hst]
     rw [show K+(j+1)+1=K+j+1+1 by omega,ht,List.length_append,←hcd]
     exact ⟨by omega,by simp,rfl,by omega,by simp;omega,by simp⟩
   ·have hend:K+j+1=l.length:=by omega
    have hlt:¬((j:Int)+1<((l.length-K:Nat):Int)):=by omega
    have htl:l.take (K+j+1)=l:=List.take_of_length_le (by omega)
    rw [htl] at hcd
    have hcn:c<l.length:=by omega
    have sl1:=Az (b:=b) (g:=g) hcn
    have sl2:=MH (b:=b) (g:=g) hc0 (Nat.le_of_lt hcn)
    have hcr:eJ l (K+j+1)=(cd l++l.drop c).map fX.cells:=by unfold eJ;rw [htl,←hcd]
    have hclr:mf Tryz.prog base (X.set b (.rows 2 g (eJ l (K+j+1)))) 41 (.sl b g 2 c (l.length-c))=some (X.set b (.rows 2 g ((cd l).map fX.cells++List.replicate (l.length-c) zE))):=by
     have hu:Program.underlying Tryz.prog 41=some (.slice 51):=by simp
     have hz:aQ Tryz.prog 51=some (.agg zE):=by simp [zE]
     have hrl:=Bj l hm
     unfold mf
     simp only [hu,hX,CT,hz,AV.cells]
     rw [if_pos ⟨hb,trivial,trivial,trivial,by decide,by omega,by omega,by decide⟩,List.set_set,hcr,List.map_append,List.take_left' (by rw [List.length_map];exact hcd.symm)]
    simp [q0,q3,q4,q5,hlt,sl1,sl2,hclr,xS]
    exact ⟨hcd,by rw [hcd]⟩
  ·rw [if_neg he,hcl] at ht
   simp [q0,q3,hlt,r1,r0,hE,w0,w1,d1,d0,t1,t0,hp,hil2,he]
   refine ⟨by omega,by omega,?_⟩
   rw [ht,List.take_add_one (i:=i+1),List.getElem?_eq_getElem h];rfl
 ·have hlt:¬((i:Int)+1<l.length):=by omega
  have hc:cd l=l:=by rw [List.take_of_length_le (by omega)] at hcl;exact hcl
  simp [q0,q3,hlt]
  exact same hc
end Go.Proofs.Ev
namespace Go.Proofs.Ev
open Go.Proofs
variable {C:bG} {σ:aZ} {e:List fX→List fX}
structure gR (C:bG) (σ:aZ) (e:List fX→List fX):Prop extends eR C σ where
 plainZ:∀f,f∈[28]→C.pure f=false∧C.frz f=false
 kEdge:C.kinds 51=some [.int .i64,.int .i64]
 lenE:∀l,(e l).length=l.length
 sortE:∀{base:Nat} {H:ag} {b g:Nat} {l:List fX},l.length≤2^40→base≤b→H[b]?=some (.rows 2 g (l.map fX.cells))→∀K:AV→ag→Prop,
  aD Tryz.prog C base (.fn 26 []) [.sl b g 2 0 l.length,.fn 27 []] H K=K (.tup []) (H.set b (.rows 2 g ((e l).map fX.cells)))
 sortE0:∀{base:Nat} {H:ag} (K:AV→ag→Prop),aD Tryz.prog C base (.fn 26 []) [.nils,.fn 27 []] H K=K (.tup []) H
theorem yR (S:gR C σ e) {base:Nat} {H:ag} {b g:Nat} {l:List fX} (hb:base≤b) (hg:H[b]?=some (.rows 2 g (l.map fX.cells))) (hl:l.length≤2^40) (K:AV→ag→Prop) :
 aD Tryz.prog C base (.fn 28 []) [.sl b g 2 0 l.length] H K=K (.sl b g 2 0 (cd l).length) (H.set b (.rows 2 g ((cd l).map fX.cells++List.replicate (l.length-(cd l).length) zE))):=by
 have hz:=S.plainZ 28 (by decide)
 obtain ⟨n,v,H',h1,rfl,rfl⟩:=bn (caps:=[]) (args:=[.sl b g 2 0 l.length]) hz.1 hz.2 (vc (S.prim _ (by decide)) S.kEdge hb hg hl)
 exact aD.eq ⟨n,_,_,h1,rfl,rfl⟩ K
theorem xe (S:gR C σ e) {base:Nat} {H:ag} (K:AV→ag→Prop):aD Tryz.prog C base (.fn 28 []) [.nils] H K=K .nils H:=by
 refine aD.eq (bn (S.plainZ _ (by decide)).1 (S.plainZ _ (by decide)).2 (am Tryz.func28 rfl (S.prim _ (by decide)) (by simp) (by kernel_rfl) ?_)) K
 unfold Tryz.f28
 simp [aG]
def kR (l:List (aI×Int)):List (aI×AV):=l.map fun x=>(x.1,.int .i64 x.2)
def qL (l:List (aI×Int)) (d:aI) (b:Int):List (aI×Int) :=
 match l with
 | []=>[(d,b)]
 | x::l=>if aF x.1 d then (d,b)::l else x::qL l d b
def oB (l:List (aI×Int)) (d:aI):Int :=
 match l with
 | []=>0
 | x::l=>if aF x.1 d then x.2 else oB l d
theorem xL:∀(l:List (aI×Int)) (d:aI),(eH (kR l) d=none→oB l d=0∧∀b,qL l d b=l++[(d,b)])∧(∀i v,eH (kR l) d=some (i,v)→v=.int .i64 (oB l d)∧∀b,qL l d b=l.set i (d,b))
 | [],d=>by simp [kR,eH,oB,qL]
 | x::l,d=>by
  obtain ⟨h1,h2⟩:=xL l d
  have hc:eH (kR (x::l)) d=if aF x.1 d then some (0,.int .i64 x.2) else (eH (kR l) d).map fun p=>(p.1+1,p.2):=rfl
  rw [hc,oB]
  cases hs:aF x.1 d with
  | true =>
   refine ⟨fun h=>by simp at h,fun i v h=>?_⟩
   simp at h
   obtain ⟨rfl,rfl⟩:=h
   refine ⟨by simp,fun b=>?_⟩
   rw [qL,hs];simp
  | false =>
   simp only [Bool.false_eq_true,if_false]
   refine ⟨fun h=>?_,fun i v h=>?_⟩
   ·obtain ⟨a,b⟩:=h1 (by simpa using h)
    refine ⟨a,fun c=>?_⟩
    rw [qL,hs,b c];simp
   ·cases hp:eH (kR l) d with
    | none=>rw [hp] at h;cases h
    | some p =>
     rw [hp] at h
     cases h
     obtain ⟨a,b⟩:=h2 p.1 p.2 hp
     refine ⟨a,fun c=>?_⟩
     rw [qL,hs,b c];simp
theorem zH (S:aA C) {X:ag} {m:Nat} {l:List (aI×Int)} (hm:X[m]?=some (.map (cC (kR l)))) (d:aI):cu Tryz.prog C X 86 (.map m) (.agg d.cells) false=some (.int .i64 (oB l d)):=by
 have hf:=mn S d (kR l) 0
 obtain ⟨h1,h2⟩:=xL l d
 simp only [cu,O7,jQ S,iw,hm,hf,if_true]
 cases hp:eH (kR l) d with
 | none=>rw [(h1 hp).1];simp
 | some p=>rw [←(h2 p.1 p.2 hp).1];simp
theorem DL (S:aA C) {base:Nat} {X:ag} {m:Nat} {l:List (aI×Int)} (hb:base≤m) (hm:X[m]?=some (.map (cC (kR l)))) (d:aI) (b:Int) :
 dB Tryz.prog C base X 86 (.map m) (.agg d.cells) (.int .i64 b)=some (X.set m (.map (cC (kR (qL l d b))))):=by
 have hf:=mn S d (kR l) 0
 obtain ⟨h1,h2⟩:=xL l d
 simp only [dB,O7,jQ S,hm,hf,hb,and_self,if_true]
 cases hp:eH (kR l) d with
 | none =>
  rw [(h1 hp).2 b]
  simp [cC,kR]
 | some p =>
  rw [(h2 p.1 p.2 hp).2 b]
  simp [cC,kR,List.map_set]
def zD (file:aI) (a:aH):Bool:=decide (a.kind=5)&&aF a.file file
def u9 (al:aI→Bool) (file:aI) (a:aH):Bool:=(decide (a.kind=6)&&aF a.file file)&&al a.id
def jT (al:aI→Bool) (a:aH):List AV:=a.id.cells++[.str a.text,.bool (al a.id)]
@[simp] theorem PR (al:aI→Bool) (a:aH):(jT al a).length=35:=by simp [jT]
theorem CU (al:aI→Bool) (a:aH):AV.closeds (jT al a)=true:=by
 unfold jT
 simp [cZ,AV.closeds,AV.closed]
theorem u4 (al:aI→Bool) (a:aH):∀v∈jT al a,v.leaf=true:=by
 have h:(jT al a).all AV.leaf=true:=by
  unfold jT
  rw [List.all_append,aI.leafs];rfl
 exact List.all_eq_true.1 h
def ql:List (aI×Int)→Nat→List aH→List (aI×Int)
 | T,_,[]=>T
 | T,n,a::l=>ql (qL T a.id (n:Int)) (n+1) l
theorem v6:∀(l:List aH) (T:List (aI×Int)) (n:Nat) (a:aH),ql T n (l++[a])=qL (ql T n l) a.id ((n+l.length:Nat):Int)
 | [],T,n,a=>by simp [ql]
 | b::l,T,n,a=>by
  rw [List.cons_append,ql,ql,v6 l]
  congr 2
  simp only [List.length_cons];omega
def zc (T:List (aI×Int)) (a:aH):fX:=⟨oB T a.frm,oB T a.to⟩
theorem vU {α:Type} (p:α→Bool) (l:List α) {i:Nat} (h:i<l.length):(l.take (i+1)).filter p=(l.take i).filter p++if p l[i] then [l[i]] else []:=by
 rw [List.take_add_one,List.getElem?_eq_getElem h,List.filter_append]
 cases hp:p l[i]<;>simp [hp]
structure AO (base lo fb rb mA mI gb:Nat) (file:aI) (AL:List aI) (T:List (aI×Int)) (V:List (List AV)) (E:List fX) (X:ag):Prop where
 hf:ax X fb 0 33 0=some file.cells
 hr:X[rb]?=some (.rows 2 0 [[.nils,.nils]])
 hA:X[mA]?=some (.map (cC (iY AL)))
 hI:X[mI]?=some (.map (cC (kR T)))
 o:∃v u,X[gb]?=some (.rows 2 0 [[v,u]])∧gC lo 35 X v V∧gC lo 2 X u (E.map fX.cells)
 low:base≤lo∧base≤mI∧base≤gb∧base≤rb∧fb<lo∧rb<lo∧mA<lo∧mI<lo∧gb<lo∧lo≤X.length∧fb≠mI∧fb≠gb∧rb≠mI∧rb≠gb∧mA≠mI∧mA≠gb∧mI≠gb
theorem AO.app {base lo fb rb mA mI gb:Nat} {file:aI} {AL:List aI} {T:List (aI×Int)} {V:List (List AV)} {E:List fX} {X:ag} (h:AO base lo fb rb mA mI gb file AL T V E X) (M:ag):AO base lo fb rb mA mI gb file AL T V E (X++M):=by
 obtain ⟨h1,h2,h3,h4,⟨v,u,h5,h6,h7⟩,h8⟩:=h
 have hk:∀{b:Nat} {blk:bQ},X[b]?=some blk→(X++M)[b]?=some blk:=fun h=>by rw [List.getElem?_append_left (List.getElem?_eq_some_iff.1 h).1];exact h
 exact ⟨bH h1 M,hk h2,hk h3,hk h4,⟨v,u,hk h5,h6.app M,h7.app M⟩,by simp;omega⟩
theorem gC.leaf {lo sz:Nat} {X:ag} {v:AV} {rows:List (List AV)} (h:gC lo sz X v rows):v.leaf=true∧v.cells=[v]:=by
 rcases h with ⟨_,rfl⟩ | ⟨_,b,g,rfl,_⟩
 ·exact ⟨rfl,rfl⟩
 ·exact ⟨rfl,rfl⟩
theorem gC.low {lo sz:Nat} {X:ag} {v:AV} {rows:List (List AV)} (h:gC lo sz X v rows):∀b g l,v=.sl b g sz 0 l→lo≤b∧X[b]?=some (.rows sz g rows):=by
 intro b g l h1
 rcases h with ⟨_,h2⟩ | ⟨_,b2,g2,h2,h3,h4⟩
 ·rw [h1] at h2;cases h2
 ·rw [h1] at h2;cases h2;exact ⟨h4,h3⟩
theorem AO.line (S:gR C σ e) {base lo fb rb mA mI gb:Nat} {file:aI} {AL:List aI} {T:List (aI×Int)} {V:List (List AV)} {X:ag} (h:AO base lo fb rb mA mI gb file AL T V [] X) (T':List (aI×Int)) {row:List AV} (hl:row.length=35) (hV:V.length≤2^30) :
 ∃v u v' X2 X3,X[gb]?=some (.rows 2 0 [[v,u]])∧bA Tryz.prog base (X.set mI (.map (cC (kR T')))) #[40,40] v.denil (.lst [row] true)=some (v',X2)∧ao Tryz.prog base X2 40 (.ptr gb 0 2 0 0) v'=some X3∧AO base lo fb rb mA mI gb file AL T' (V++[row]) [] X3∧X.length≤X3.length:=by
 obtain ⟨zf,zr,zA,zI,⟨v,u,zo,zv,zu⟩,zlow⟩:=h
 have hmI:mI<X.length:=(List.getElem?_eq_some_iff.1 zI).1
 obtain ⟨Z1,hZ1⟩:∃Z1,Z1=X.set mI (.map (cC (kR T'))):=⟨_,rfl⟩
 rw [←hZ1]
 have k1:∀{b:Nat} {blk:bQ},b≠mI→X[b]?=some blk→Z1[b]?=some blk:=fun hb h=>by rw [hZ1,List.getElem?_set_ne (Ne.symm hb)];exact h
 have len1:Z1.length=X.length:=by rw [hZ1];simp
 have S1:gC lo 35 Z1 v V:=zv.keep fun b g rs hb h=>k1 (by omega) h
 obtain ⟨v',X2,ea,hS',hl',⟨b',g',l',hv'⟩,hk'⟩:=S1.append (P:=Tryz.prog) (base:=base) (ts:=#[40,40]) (e:=47) (xd:=.slice 47) (x:=.lst [row] true) (ys:=[row])
  (by simp) (by simp) O4 P7 (by simp) (by decide) (by omega) (by rw [len1];omega) rfl (by simpa using hl) (by simp) (by simp;omega)
 have hkz:∀{b:Nat} {blk:bQ},b<lo→Z1[b]?=some blk→X2[b]?=some blk:=fun {b blk} h2 h=>(hk' b blk h fun b2 g l h3=>by have:=(S1.low b2 g l h3).1;omega).1
 have g3:=hkz (by omega) (k1 (by omega) zo)
 have hgl:gb<X2.length:=(List.getElem?_eq_some_iff.1 g3).1
 have hul:v'.leaf=true∧v'.cells=[v']:=hS'.leaf
 have hbg:base≤gb:=by omega
 obtain ⟨X3,hX3⟩:∃X3,X3=X2.set gb (.rows 2 0 [[v',u]]):=⟨_,rfl⟩
 have est:ao Tryz.prog base X2 40 (.ptr gb 0 2 0 0) v'=some X3:=by
  rw [hX3]
  simp [ao,g3,hul.1,hul.2,hbg]
 have k3:∀{b:Nat} {blk:bQ},b≠gb→X2[b]?=some blk→X3[b]?=some blk:=fun hb h=>by rw [hX3,List.getElem?_set_ne (Ne.symm hb)];exact h
 refine ⟨v,u,v',X2,X3,zo,ea,est,⟨?_,k3 (by omega) (hkz (by omega) (k1 (by omega) zr)),k3 (by omega) (hkz (by omega) (k1 (by omega) zA)),k3 (by omega) (hkz (by omega) (by rw [hZ1,List.getElem?_set_self hmI])),⟨v',u,by rw [hX3,List.getElem?_set_self hgl],hS'.keep fun b g rs hb h=>k3 (by omega) h,?_⟩,by rw [hX3];simp;omega⟩,by rw [hX3];simp;omega⟩
 ·unfold ax at zf ⊢
  cases hx:X[fb]? with
  | none=>rw [hx] at zf;cases zf
  | some blk=>rw [hx] at zf;rw [k3 (by omega) (hkz (by omega) (k1 (by omega) hx))];exact zf
 ·rcases zu with h | ⟨h,_⟩
  ·exact .inl h
  ·exact absurd rfl h
theorem AO.edge (S:gR C σ e) {base lo fb rb mA mI gb:Nat} {file:aI} {AL:List aI} {T:List (aI×Int)} {V:List (List AV)} {E:List fX} {X:ag} (h:AO base lo fb rb mA mI gb file AL T V E X) (x:fX) (hE:E.length≤2^30) :
 ∃v u u' X2 X3,X[gb]?=some (.rows 2 0 [[v,u]])∧bA Tryz.prog base X #[41,41] u.denil (.lst [x.cells] true)=some (u',X2)∧ao Tryz.prog base X2 41 (.ptr gb 0 2 0 1) u'=some X3∧AO base lo fb rb mA mI gb file AL T V (E++[x]) X3∧X.length≤X3.length:=by
 obtain ⟨zf,zr,zA,zI,⟨v,u,zo,zv,zu⟩,zlow⟩:=h
 obtain ⟨u',X2,ea,hS',hl',⟨b',g',l',hu'⟩,hk'⟩:=zu.append (P:=Tryz.prog) (base:=base) (ts:=#[41,41]) (e:=51) (xd:=.slice 51) (x:=.lst [x.cells] true) (ys:=[x.cells])
  (by simp) (by simp) CT P9 (by simp) (by decide) (by omega) (by omega) rfl (by simp [fX.cells]) (by simp) (by simp;omega)
 have hkz:∀{b:Nat} {blk:bQ},b<lo→X[b]?=some blk→X2[b]?=some blk:=fun {b blk} h2 h=>(hk' b blk h fun b2 g l h3=>by have:=(zu.low b2 g l h3).1;omega).1
 have hk35:∀{b g:Nat} {rs:List (List AV)},X[b]?=some (.rows 35 g rs)→X2[b]?=some (.rows 35 g rs):=fun {b g rs} h=>(hk' b _ h fun b2 g2 l h3 h4=>by
  have:=(zu.low b2 g2 l h3).2
  rw [←h4,h] at this;cases this).1
 have g3:=hkz (by omega) zo
 have hgl:gb<X2.length:=(List.getElem?_eq_some_iff.1 g3).1
 have hul:u'.leaf=true∧u'.cells=[u']:=hS'.leaf
 have hbg:base≤gb:=by omega
 obtain ⟨X3,hX3⟩:∃X3,X3=X2.set gb (.rows 2 0 [[v,u']]):=⟨_,rfl⟩
 have est:ao Tryz.prog base X2 41 (.ptr gb 0 2 0 1) u'=some X3:=by
  rw [hX3]
  simp [ao,g3,hul.1,hul.2,hbg]
 have k3:∀{b:Nat} {blk:bQ},b≠gb→X2[b]?=some blk→X3[b]?=some blk:=fun hb h=>by rw [hX3,List.getElem?_set_ne (Ne.symm hb)];exact h
 refine ⟨v,u,u',X2,X3,zo,ea,est,⟨?_,k3 (by omega) (hkz (by omega) zr),k3 (by omega) (hkz (by omega) zA),k3 (by omega) (hkz (by omega) zI),⟨v,u',by rw [hX3,List.getElem?_set_self hgl],zv.keep fun b g rs hb h=>k3 (by omega) (hk35 h),?_⟩,by rw [hX3];simp;omega⟩,by rw [hX3];simp;omega⟩
 ·unfold ax at zf ⊢
  cases hx:X[fb]? with
  | none=>rw [hx] at zf;cases zf
  | some blk=>rw [hx] at zf;rw [k3 (by omega) (hkz (by omega) hx)];exact zf
 ·rw [List.map_append]
  exact hS'.keep fun b g rs hb h=>k3 (by omega) h
end Go.Proofs.Ev
