/- Part 24 of the proof that quiltlaw38.BlameHistory returns true: no statement of its own. -/
import Derived.Test.YtkicailcmamaiaaGreatDoorH23
import Derived.Test.YtkicailcmamaiaaGreatDoorH21
import Derived.Test.YtkicailcmamaiaaGreatDoorH12
import Derived.Lib.LaidTab
import Derived.Stop.LaidErr
import Derived.MakeChecks
import Derived.Below
import Derived.Test.YtkicailcmamaiaaGreatDoorH7
set_option linter.all false
namespace Go.Proofs.Ev
open Go.Proofs
variable {σ:aZ}
theorem F6 {α:Type} [DecidableEq α]:∀{l m:List α},l.Nodup→(∀x∈l,x∈m)→m.length≤l.length→(∀x∈m,x∈l)∧m.Nodup
 | [],m,_,_,h=>by
  have:m=[]:=List.length_eq_zero_iff.1 (by simpa using h)
  subst this;simp
 | a::l,m,hn,hs,h=>by
  obtain ⟨h1,h2⟩:=List.nodup_cons.1 hn
  have ha:=hs a (by simp)
  have hp:=List.perm_cons_erase ha
  have hlen:=List.length_erase_of_mem ha
  have hpos:0<m.length:=List.length_pos_of_mem ha
  obtain ⟨i1,i2⟩:=F6 (l:=l) (m:=m.erase a) h2 (fun x hx=>(List.mem_erase_of_ne (fun e=>h1 (by rw [←e];exact hx))).2 (hs x (by simp [hx]))) (by simp at h;omega)
  refine ⟨fun x hx=>?_,?_⟩
  ·rcases List.mem_cons.1 (hp.mem_iff.1 hx) with e | e
   ·rw [e];simp
   ·exact List.mem_cons_of_mem _ (i1 x e)
  ·rw [hp.nodup_iff]
   exact List.nodup_cons.2 ⟨fun hc=>h1 (i1 a hc),i2⟩
def dG (l:List ar):List (List Nat):=l.map fun x=>x.d
theorem ug {l:List ar} {d:List Nat}:dg l d=true↔d∈dG l:=by rw [qg];simp [dG]
theorem vW {out:List ar} {d:ar} (h:(dG out).Nodup) (h1:dg out d.d=false):(dG (out++[d])).Nodup:=by
 have:dG (out++[d])=dG out++[d.d]:=by simp [dG]
 rw [this,List.nodup_append]
 refine ⟨h,by simp,fun a ha b hb=>?_⟩
 simp at hb;subst hb
 rintro rfl
 rw [ug.2 ha] at h1;cases h1
theorem iE.nodup {s:List ag} {out:List ar} (h:iE s out):(dG out).Nodup∧∀d∈dG out,d∈dG (s.map fun x=>x.id):=by
 induction h with
 | nil=>simp [dG]
 | snoc h hx h1 h2 ih =>
  refine ⟨vW ih.1 h1,fun d hd=>?_⟩
  simp only [dG,List.map_append,List.mem_append,List.map_cons,List.map_nil,List.mem_singleton] at hd
  rcases hd with hd | rfl
  ·exact ih.2 d hd
  ·simp only [dG,List.map_map,List.mem_map];exact ⟨_,hx,rfl⟩
theorem iE.next {s:List ag} {O out:List ar} (h:iE s O):(∀d∈dG O,dg out d=true)∨∃x∈s,dg out x.id.d=false∧gb out (cP x.patch).2=true:=by
 induction h with
 | nil=>exact .inl (by simp [dG])
 | snoc h hx h1 h2 ih =>
  rename_i O x
  rcases ih with ih | ih
  ·by_cases hh:dg out x.id.d=true
   ·refine .inl fun d hd=>?_
    simp only [dG,List.map_append,List.mem_append,List.map_cons,List.map_nil,List.mem_singleton] at hd
    rcases hd with hd | rfl
    ·exact ih d hd
    ·exact hh
   ·refine .inr ⟨x,hx,by simpa using hh,?_⟩
    unfold gb at h2 ⊢
    rw [List.all_eq_true] at h2 ⊢
    intro y hy
    exact ih _ (ug.1 (h2 y hy))
  ·exact .inr ih
theorem jh (s:List ag):∀(n:Nat) (out:List ar),(dG out).Nodup→(dG (cn σ s n out)).Nodup
 | 0,out,h=>h
 | n+1,out,h=>by
  rw [cn]
  cases hf:s.find? (wu σ out) with
  | none=>exact h
  | some x =>
   have:=List.find?_some hf
   simp only [wu,Bool.and_eq_true,Bool.not_eq_true'] at this
   exact jh s n _ (vW h this.1)
theorem wx {s:List ag} {O:List ar} (hO:iE s O) (hN:∀x∈s,∀out,gb out (cP x.patch).2=true→gb out (dQ σ x.patch)=true):∀(n:Nat) (out:List ar),(∀d∈dG O,dg (cn σ s n out) d=true)∨(cn σ s n out).length=out.length+n
 | 0,out=>.inr rfl
 | n+1,out=>by
  rw [cn]
  cases hf:s.find? (wu σ out) with
  | none =>
   rcases hO.next (out:=out) with h | ⟨x,hx,h1,h2⟩
   ·exact .inl h
   ·rw [List.find?_eq_none] at hf
    have:=hf x hx
    simp [wu,h1,hN x hx out h2] at this
  | some x =>
   rcases wx hO hN n (out++[x.id]) with h | h
   ·exact .inl h
   ·refine .inr ?_
    simp only
    rw [h];simp;omega
theorem GW {s:List ag} {O:List ar} (hO:iE s O) (hl:s.length≤O.length) (hN:∀x∈s,∀out,gb out (cP x.patch).2=true→gb out (dQ σ x.patch)=true):s.Pairwise (fun x y=>x.id.d≠y.id.d)∧∀x∈s,dg (cn σ s s.length []) x.id.d=true:=by
 obtain ⟨n1,n2⟩:=hO.nodup
 have hD:(dG (s.map fun x=>x.id)).length=s.length:=by simp [dG]
 obtain ⟨c1,c2⟩:=F6 n1 n2 (by rw [hD];simpa [dG] using hl)
 have hm:∀x∈s,x.id.d∈dG (s.map fun x=>x.id):=fun x hx=>by simp only [dG,List.map_map,List.mem_map];exact ⟨x,hx,rfl⟩
 refine ⟨?_,fun x hx=>?_⟩
 ·have:dG (s.map fun x=>x.id)=s.map fun x=>x.id.d:=by simp [dG]
  rw [this] at c2
  exact List.pairwise_map.1 c2
 ·rcases wx (σ:=σ) hO hN s.length [] with h | h
  ·exact h _ (c1 _ (hm x hx))
  ·have p1:=jh (σ:=σ) s s.length [] (by simp [dG])
   have p2:∀d∈dG (cn σ s s.length []),d∈dG (s.map fun x=>x.id):=by
    intro d hd
    simp only [dG,List.mem_map] at hd
    obtain ⟨e,he,rfl⟩:=hd
    rcases lG s _ _ e he with h | ⟨x,hx,rfl⟩
    ·simp at h
    ·exact hm x hx
   obtain ⟨q1,_⟩:=F6 p1 p2 (by rw [hD];simp [dG,h])
   exact ug.2 (q1 _ (hm x hx))
theorem wT:∀(l:List ar) (a:SK×List ar) (d:List Nat),((∃x∈a.2,x.d=d)∨∃x∈l,x.d=d)→∃x∈(l.foldl fq a).2,x.d=d
 | [],a,d,h=>by simpa using h
 | y::l,a,d,h=>by
  refine wT l (fq a y) d ?_
  rcases h with h | ⟨x,hx,rfl⟩
  ·exact .inl (jT.2 (.inl h))
  ·rcases List.mem_cons.1 hx with rfl | hx
   ·exact .inl (jT.2 (.inr rfl))
   ·exact .inr ⟨x,hx,rfl⟩
theorem sU:∀(l:List aC) (a:SK×List ar) (d:List Nat),((∃x∈a.2,x.d=d)∨∃x∈l,x.d=d∧bz x.d=false)→∃x∈(l.foldl lj a).2,x.d=d
 | [],a,d,h=>by simpa using h
 | y::l,a,d,h=>by
  refine sU l (lj a y) d ?_
  have hk:(∃x∈a.2,x.d=d)→∃x∈(lj a y).2,x.d=d:=fun h=>by
   unfold lj;split
   ·exact h
   ·exact jT.2 (.inl h)
  rcases h with h | ⟨x,hx,rfl,hz⟩
  ·exact .inl (hk h)
  ·rcases List.mem_cons.1 hx with rfl | hx
   ·left
    unfold lj
    rw [if_neg (by simp [hz])]
    exact jT.2 (.inr rfl)
   ·exact .inr ⟨x,hx,rfl,hz⟩
theorem yO:∀(l:List aW) (a:SK×List ar) (d:List Nat),((∃x∈a.2,x.d=d)∨∃c∈l,∃x∈fF c,x.d=d∧bz x.d=false)→∃x∈(l.foldl oR a).2,x.d=d
 | [],a,d,h=>by simpa using h
 | y::l,a,d,h=>by
  refine yO l (oR a y) d ?_
  rcases h with h | ⟨c,hc,x,hx,h1,h2⟩
  ·exact .inl (sU _ _ _ (.inl h))
  ·rcases List.mem_cons.1 hc with rfl | hc
   ·exact .inl (sU _ _ _ (.inr ⟨x,hx,h1,h2⟩))
   ·exact .inr ⟨c,hc,x,hx,h1,h2⟩
theorem BR {c:aW} {x:aC} (h:x∈dr c):x∈fF c:=by
 unfold dr jF fH gK iz i8 at h
 unfold fF
 simp only [List.take_length,List.map_append,List.mem_append,List.map_map] at h
 rcases h with h | h | h | h
 ·split at h
  ·simp at h;simp [h]
  ·simp at h
 ·split at h
  ·simp at h;simp [h]
  ·simp at h
 ·split at h
  ·simp at h;rcases h with h | h<;>simp [h]
  ·simp at h
 ·simp at h;simp [h]
theorem Eh (hd:∀l,(σ.d l).Perm l) {p:aA} (hp:bt p=0) {d:ar} (h:d∈dQ σ p):∃x∈(cP p).2,x.d=d.d:=by
 obtain ⟨y,hy,hyd⟩:=(lu (σ.d (cM p)) d.d).1 ⟨d,h,rfl⟩
 have hy:=(hd _).mem_iff.1 hy
 unfold cP
 rw [if_neg (by simp [hp])]
 rw [←hyd]
 unfold cM at hy
 refine yO _ _ _ ?_
 rcases List.mem_append.1 hy with hy | hy
 ·exact .inl (wT _ _ _ (.inr ⟨y,hy,rfl⟩))
 ·right
  obtain ⟨l,hl,hyl⟩:=List.mem_flatten.1 hy
  obtain ⟨c,hc,rfl⟩:=List.mem_map.1 hl
  unfold dR at hyl
  obtain ⟨x,hx,rfl⟩:=List.mem_map.1 hyl
  obtain ⟨h1,h2⟩:=List.mem_filter.1 hx
  exact ⟨c,hc,x,BR h1,rfl,by simpa using h2⟩
theorem wn (hd:∀l,(σ.d l).Perm l) {p:aA} (hp:bt p=0) (out:List ar) (h:gb out (cP p).2=true):gb out (dQ σ p)=true:=by
 unfold gb at h ⊢
 rw [List.all_eq_true] at h ⊢
 intro d hdm
 obtain ⟨x,hx,hxd⟩:=Eh hd hp hdm
 rw [←hxd];exact h x hx
theorem Cy:∀(l:List ag) (p:Option ar),sw p l=0→∀x∈l,bt x.patch=0∧pJ x.patch=x.id.d
 | [],p,_,x,hx=>by simp at hx
 | y::l,p,h,x,hx=>by
  rw [qQ] at h
  by_cases h1:bt y.patch=0
  rotate_left
  ·rw [if_pos h1] at h;exact absurd h h1
  rw [if_neg (by simpa using h1)] at h
  by_cases h2:pJ y.patch=y.id.d
  rotate_left
  ·rw [if_pos h2] at h;cases h
  rw [if_neg (by simpa using h2)] at h
  rcases List.mem_cons.1 hx with e | hx
  ·rw [e];exact ⟨h1,h2⟩
  ·refine Cy l (some y.id) ?_ x hx
   cases p with
   | none=>simpa using h
   | some y' =>
    by_cases h3:0≤bQ y'.d (pJ y.patch)
    ·rw [if_pos (by simpa using h3)] at h;cases h
    ·rw [if_neg (by simpa using h3)] at h;exact h
theorem HG {p:aA} (hg:eB p=false):(aT p).length≤90000:=by
 unfold eB at hg
 simp only [Bool.or_eq_false_iff,decide_eq_false_iff_not,Nat.not_lt,List.any_eq_false] at hg
 obtain ⟨h1,⟨_,h2⟩,h3⟩:=hg
 have h4:∀c∈p.changes,c.lines.length≤40∧c.over.length≤40:=by
  intro c hc
  have:=h1 c hc
  simp only [tc,pg,Bool.or_eq_true,decide_eq_true_eq,not_or,Nat.not_lt] at this
  exact ⟨this.1.1,this.2⟩
 have hb:=oQ p.changes [] h4 (by simp)
 have hL:aT p=[]∨aT p=(j6 p.changes []).2:=by unfold aT;split<;>simp
 rcases hL with h | h<;>rw [h]
 ·simp
 ·have:=hb.1;simp at this;omega
structure pL (σ:aZ) (s:List ag):Prop where
 good:cr s
 n:s.length≤8
 named:Fu s
 cov:∀x∈s,dg (cn σ s s.length []) x.id.d=true
theorem IS (hd:∀l,(σ.d l).Perm l) {s:List ag} (hz:oj s) (h:qc s=true):pL σ s:=by
 unfold qc at h
 simp only [Bool.and_eq_true,Bool.not_eq_true',beq_iff_eq] at h
 obtain ⟨h1,h2⟩:=h
 have hF:=wK hz h1
 unfold p4 at h2
 split at h2
 ·omega
 rename_i c1
 split at h2
 ·omega
 split at h2
 ·omega
 rename_i c3
 have k1:=Cy s none (by omega)
 have hsm:∀x∈s,(aT x.patch).length≤90000:=by
  intro x hx
  refine HG ?_
  unfold kf at h1
  simp only [Bool.or_eq_false_iff,List.any_eq_false] at h1
  have:=h1.1 x (by rw [List.take_of_length_le (by have:=hF.n;omega)];exact hx)
  simpa using this
 have hg:∀x∈s,x.patch.Good:=fun x hx=>⟨hF.p x hx,(k1 x hx).1,hsm x hx⟩
 obtain ⟨o1,o2⟩:=GW (σ:=σ) (qn s s.length [] .nil) (by omega) (fun x hx out=>wn hd (k1 x hx).1 out)
 refine ⟨⟨hg,o1,by have:=hF.n;omega⟩,hF.n,fun x hx=>?_,o2⟩
 have:=(k1 x hx).2
 unfold pJ at this
 rw [if_pos (k1 x hx).1] at this
 exact this
end Go.Proofs.Ev
namespace Go.Proofs.Ev
open Go.Proofs
variable {C:bD} {σ:aZ}
end Go.Proofs.Ev
namespace Go.Proofs.Ev
open Go.Proofs
variable {N:gH}
def If:AV:=.tup [.lst [(Ax d1 3).cells++[.str [121],.int .i64 0]] false,.int .i64 0]
def Hw:List Fx:=⟨49,[sE],.lst [.str [102]::(Ax d1 0).cells] false⟩::⟨50,[sE,.agg (Ax d1 0).cells],.tup [Pk,.int .i64 0]⟩::⟨52,[Pk],.lst [[.bool false,.lst [[.int .i64 1]] false,.nils]] false⟩::oI
set_option maxRecDepth 100000 in
theorem E1:((iB.v (rO Tryz.prog (tu Hw) 3000 (.func 0 19 [sE,.str [102]] []))).bind fun r=>aI r.2 0 6 r.1)=some If:=by kernel_rfl
def Hz:List Fx:=⟨17,[.nils,.agg p1.cells],.tup [JW,.agg d1.cells,.int .i64 0]⟩::⟨17,[JW,.agg p2.cells],.tup [sE,.agg d2.cells,.int .i64 0]⟩::⟨19,[sE,.str [102]],If⟩ ::
 ⟨6,[sE,.agg (Ax d1 2).cells],.tup [.lst [.int .i64 1::(d1.cells++(Ax d1 2).cells),.int .i64 2::(d2.cells++(Ax d2 0).cells)] false,.int .i64 0]⟩::⟨8,[sE,.agg (Ax d1 0).cells],.tup [.lst [d1.cells,d2.cells] false,.int .i64 0]⟩::oI
set_option maxRecDepth 100000 in
theorem E0:((iB.v (rO Tryz.prog (tu Hz) 3000 (.func 0 5 [] []))).bind fun r=>aI r.2 0 6 r.1)=some (.bool true):=by kernel_rfl
theorem Hy (hT:fS Tryz.prog N) (hG:jk N) (hL:kW N):∀r∈Hw,mV N r:=by
 have h0:=Am hT hG hL
 intro r hr
 simp only [Hw,List.mem_cons] at hr
 rcases hr with rfl | rfl | rfl | hr
 ·exact iR hT h0 E3 (by kernel_rfl) (by kernel_rfl) ⟨_,Tryz.func49,rfl⟩
 ·exact iR hT h0 Mh (by kernel_rfl) (by kernel_rfl) ⟨_,Tryz.func50,rfl⟩
 ·exact iR hT h0 Ao (by kernel_rfl) (by kernel_rfl) ⟨_,Tryz.func52,rfl⟩
 ·exact h0 r hr
theorem HA (hT:fS Tryz.prog N) (hG:jk N) (hL:kW N):∀r∈Hz,mV N r:=by
 have h0:=Am hT hG hL
 intro r hr
 simp only [Hz,List.mem_cons] at hr
 rcases hr with rfl | rfl | rfl | rfl | rfl | hr
 ·exact iR hT h0 HB (by kernel_rfl) (by kernel_rfl) ⟨_,Tryz.func17,rfl⟩
 ·exact iR hT h0 HC (by kernel_rfl) (by kernel_rfl) ⟨_,Tryz.func17,rfl⟩
 ·exact iR hT (Hy hT hG hL) E1 (by kernel_rfl) (by kernel_rfl) ⟨_,Tryz.func19,rfl⟩
 ·exact iR hT h0 Cj (by kernel_rfl) (by kernel_rfl) ⟨_,Tryz.func6,rfl⟩
 ·exact iR hT h0 E4 (by kernel_rfl) (by kernel_rfl) ⟨_,Tryz.func8,rfl⟩
 ·exact h0 r hr
def rj:Nat→List AV→ae→Option (AV×ae):=Ka [⟨5,[],.bool true⟩] 5
theorem FK (hT:fS Tryz.prog N) (hG:jk N) (hL:kW N):gL Tryz.prog N 5 rj :=
 HW (fun r hr=>by
  rw [List.mem_singleton.1 hr]
  exact iR hT (HA hT hG hL) E0 rfl rfl ⟨_,Tryz.func5,rfl⟩) rfl
theorem Dm:b8 Tryz.prog (dF rj) 5 [] [] (.bool true):=by
 intro base H
 have h1:(dF rj).pure 5=false:=by kernel_rfl
 have h2:(dF rj).frz 5=true:=by kernel_rfl
 refine ⟨2,?_⟩
 simp only [dA,h1,h2,Bool.false_eq_true,if_false,if_true,List.append_nil,List.mapM_nil,cx,Jz]
 rfl
end Go.Proofs.Ev
namespace Go.Proofs.Ev
open Go.Proofs Go.RowKit
open Go.Proofs.YtkicailcmamaiaaGreatDoor (Rows.laid_math_bits_deBruijn32tab Rows.laid_math_bits_deBruijn64tab Rows.laid_internal_strconv_uint64pow10)
section
variable {W:World}
def wm (W:World):gH:=⟨W.heap.size,fun g T=>(g=1→T=380)∧(g=2→T=5),fun cb=>match W.heap[cb]? with | some (.cells c T fr)=>some (c,T,fr) | _=>none⟩
theorem HZ:jk (wm W):=⟨fun _ h=>h.1 rfl,fun _ h=>h.2 rfl⟩
theorem H5:(List.range Tryz.prog.types.size).all (fun t=>(dN Tryz.prog t != 1||t==380)&&(cY Tryz.prog t 1 != 2||t==5))=true:=by kernel_rfl
theorem HX:sP Tryz.prog=true:=by kernel_rfl
theorem Mt:fS Tryz.prog (wm W):=by
 have all:∀t:TypeId,t<Tryz.prog.types.size→(dN Tryz.prog t=1→t=380)∧(cY Tryz.prog t 1=2→t=5):=by
  intro t ht
  have:=List.all_eq_true.1 H5 t (List.mem_range.2 ht)
  simp only [Bool.and_eq_true,Bool.or_eq_true,bne_iff_ne,ne_eq,beq_iff_eq] at this
  exact ⟨fun h=>this.1.resolve_left fun h1=>h1 h,fun h=>this.2.resolve_left fun h1=>h1 h⟩
 refine ⟨fun t h=>?_,fun t h=>?_⟩
 ·by_cases ht:t<Tryz.prog.types.size
  ·exact ⟨fun _=>(all t ht).1 h,fun e=>by cases e⟩
  ·exact absurd h (H4 HX ht)
 ·by_cases ht:t<Tryz.prog.types.size
  ·exact ⟨fun e=>(by cases e),fun _=>(all t ht).2 h⟩
  ·exact absurd h (F1 ht)
theorem CG:HR (wm W) vn [] W:={
 low:=Nat.le_refl _
 kept cb c T fr h:=by
  refine ⟨?_,GI cb⟩
  simp only [wm] at h
  split at h
  ·rename_i c' T' fr' hh;cases h;exact hh
  ·cases h
 dead b _:=rfl
 base b L h:=by cases h
 inj b b' L L' h:=by cases h
 resn b L h:=by cases h
 ress cb h:=h.elim
 rows b esz g rs h:=by simp at h
 map b es h:=by simp at h
 loop b r p s ps a c h:=by simp at h
 it b m k st h:=by simp at h }
theorem Jc (h:Lib.TabIs Tryz.prog W "internal/strconv.uint64pow10" .u64 Lib.pow10Tab):kW (wm W):=by
 intro φ w hk
 unfold Lib.TabIs World.var? at h ⊢
 cases hg:Tryz.prog.globalNamed "internal/strconv.uint64pow10" with
 | none=>rw [hg] at h;cases h
 | some g =>
  rw [hg] at h
  simp only [Option.bind_some] at h ⊢
  cases hh:W.heap[g]? with
  | none=>rw [hh] at h;cases h
  | some o =>
   rw [hh] at h
   cases o with
   | cells c T fr =>
    have:=(hk g c T fr (by simp [wm,hh])).1
    rw [this];exact h
   | _=>cases h
theorem FN {φ':fJ} {n n':Nat} {w':World} (h:bZ vn n W φ' n' w'):Below W.heap.size W w':={
 os:=h.env.1
 tape:=h.env.2.1
 output:=h.env.2.2
 size:=h.size
 block k hk:=by
  rw [Array.getElem?_eq_getElem hk]
  exact h.same k _ (Array.getElem?_eq_getElem hk) (GI k) }
def GF:List (String×DataW Unit):=[("math/bits.deBruijn32tab",Rows.laid_math_bits_deBruijn32tab),("math/bits.deBruijn64tab",Rows.laid_math_bits_deBruijn64tab),("internal/strconv.uint64pow10",Rows.laid_internal_strconv_uint64pow10)]
theorem G1:(Rows.laid_internal_strconv_uint64pow10:DataW Unit)=Lib.tabData .u64 Lib.pow10Tab:=by kernel_rfl
theorem Ms (h:laidMetH Tryz.prog GF W):Lib.TabIs Tryz.prog W "internal/strconv.uint64pow10" .u64 Lib.pow10Tab:=by
 rw [MakeChecks.laidMetH_plain _ _ _ (by kernel_rfl)] at h
 have h1:=h.tail.tail
 rw [G1] at h1
 exact Lib.tabIs_of_head (g:=1) (t:=424) (e:=270) (n:=20) (by kernel_rfl) (by kernel_rfl) Tryz.underlying424 Tryz.underlying270 (by kernel_rfl) (by kernel_rfl) h1
end
end Go.Proofs.Ev
namespace Go.Proofs.Ev
open Go.Proofs
variable {C:bD} {σ:aZ}
structure eK (C:bD) (σ:aZ):Prop extends ba C σ where
 pureU:∀f,f∈[164,99,162,10]→C.pure f=true
 plainU:∀f,f∈[163,234,309,310,369,399,153,28]→C.pure f=false∧C.frz f=false
end Go.Proofs.Ev
namespace Go.Proofs.Ev
open Go.Proofs
variable {C:bD} {σ:aZ}
end Go.Proofs.Ev
namespace Go.Proofs.Ev
open Go.Proofs
variable {C:bD} {σ:aZ}
def Qt (v:AV):Nat:=match v with | .int _ n=>n.toNat | _=>0
@[simp] theorem Od (k:IntKind) (n:Int):Qt (.int k n)=n.toNat:=rfl
end Go.Proofs.Ev
namespace Go.Proofs.Ev
open Go.Proofs
variable {C:bD} {σ:aZ}
end Go.Proofs.Ev
namespace Go.Proofs.Ev
open Go.Proofs
variable {C:bD} {σ:aZ}
end Go.Proofs.Ev
namespace Go.Proofs.Ev
open Go.Proofs
variable {C:bD} {σ:aZ}
def kX (base sz:Nat) (X:ae) (v:AV) (rows:List (List AV)):Prop:=(rows=[]∧v=.nils)∨(rows≠[]∧∃b g,v=.sl b g sz 0 rows.length∧X[b]?=some (.rows sz g rows)∧base≤b)
theorem kX.keep {base sz:Nat} {X X':ae} {v:AV} {rows:List (List AV)} (h:kX base sz X v rows) (hk:∀(b g:Nat) (rs:List (List AV)),base≤b→X[b]?=some (bL.rows sz g rs)→X'[b]?=some (bL.rows sz g rs)):kX base sz X' v rows:=by
 rcases h with h | ⟨h0,b,g,h1,h2,h3⟩
 ·exact .inl h
 ·exact .inr ⟨h0,b,g,h1,hk _ _ _ h3 h2,h3⟩
theorem kX.app {base sz:Nat} {X:ae} {v:AV} {rows:List (List AV)} (h:kX base sz X v rows) (L:ae):kX base sz (X++L) v rows :=
 h.keep fun b g rs _ hb=>by rw [List.getElem?_append_left (List.getElem?_eq_some_iff.1 hb).1];exact hb
theorem kX.freeze {base k sz d:Nat} {X:ae} {v:AV} {rows:List (List AV)} (h:kX base sz X v rows) (hk:k≤base) (hc:AV.closedss rows=true):aI X k (d+1) v=some (am (gO rows) rows):=by
 rcases h with ⟨rfl,rfl⟩ | ⟨h0,b,g,rfl,h2,h3⟩
 ·simp [gO,am]
 ·cases rows with
  | nil=>exact absurd rfl h0
  | cons r rows=>rw [dW h2 (by omega) hc];rfl
theorem kX.append {P:Program} {base lo:Nat} {ts:Array TypeId} {e:TypeId} {xd:TypeDesc} {sz by_:Nat} (h0:(ts[0]?).bind P.underlying=some (.slice e)) (h1:(ts[1]?).bind P.underlying=some xd) (hs:br P e=some sz) (hb:bytesOf P e=some by_)
 (hz:(aN P e).map (fun z=>z.cells.length)=some sz) (hp:0<sz) (hbl:base≤lo) {X:ae} (hX:lo≤X.length) {v x:AV} {rows ys:List (List AV)} (hv:kX lo sz X v rows)
 (hx:cq X xd x=some ys) (hy:∀r∈ys,r.length=sz) (hne:ys≠[]) (hbound:(rows.length+ys.length)*(by_+1)≤2^45) :
 ∃v' X',bg P base X ts v.denil x=some (v',X')∧kX lo sz X' v' (rows++ys)∧X.length≤X'.length∧(∃b g l,v'=.sl b g sz 0 l)∧∀k blk,X[k]?=some blk→(∀b g l,v=.sl b g sz 0 l→k≠b)→X'[k]?=some blk∧∀b g l,v'=.sl b g sz 0 l→k≠b:=by
 obtain ⟨b,g,X',ha,hg,hk,hd,hbb,hl⟩:=xc h0 h1 hs hb hz hp (base:=base) (by omega) (by
  rcases hv with h | ⟨_,b,g,h1,h2,h3⟩
  ·exact .inl h
  ·exact .inr ⟨b,g,h1,h2,by omega⟩) hx hy hne hbound
 have hlb:lo≤b:=by
  rcases hd with ⟨g',l,hd⟩ | ⟨_,hd⟩
  ·rcases hv with ⟨_,h⟩ | ⟨_,b',g2,h1,h2,h3⟩
   ·rw [hd] at h;cases h
   ·rw [hd] at h1;cases h1;exact h3
  ·omega
 refine ⟨_,X',ha,.inr ⟨by simp [hne],b,g,by simp,hg,hlb⟩,hl,⟨_,_,_,rfl⟩,fun k blk hkb hn=>?_⟩
 have hkl:=(List.getElem?_eq_some_iff.1 hkb).1
 have hkne:k≠b:=by
  rcases hd with ⟨g',l,hd⟩ | ⟨_,hd⟩
  ·exact hn _ _ _ hd
  ·omega
 exact ⟨by rw [hk k hkne hkl];exact hkb,fun b' g' l' h=>by cases h;exact hkne⟩
theorem Dx {p:aA} (hp:p.Good):aT p≠[]:=by
 obtain ⟨_,hc0,_⟩:=hp.head
 rw [hp.atoms]
 cases hc:p.changes with
 | nil=>rw [hc] at hc0;exact absurd rfl hc0
 | cons c l =>
  have h1:=(un c 0 (hp.good (c:=c) (by rw [hc];simp)).lnn).2
  have h2:=kM l ([]++cH c 0)
  intro h0
  rw [co,List.length_nil] at h0
  rw [h0] at h2
  exact h1 (List.length_eq_zero_iff.1 (by simpa using h2))
theorem Dk {p:aA} (hp:p.Good):bK σ p≠[]:=by
 intro h
 unfold bK at h
 exact Dx hp (List.map_eq_nil_iff.1 h)
end Go.Proofs.Ev
namespace Go.Proofs.Ev
open Go.Proofs
variable {C:bD} {σ:aZ}
end Go.Proofs.Ev
namespace Go.Proofs.Ev
structure mT where
 entry:aC
 parent:aC
 name:List UInt8
def mT.cells (x:mT):List AV:=x.entry.cells++(x.parent.cells++([.str x.name]))
@[simp] theorem mT.len (x:mT):x.cells.length=67:=by simp [mT.cells]
@[simp] theorem mT.leafs (x:mT):x.cells.all AV.leaf=true:=by simp only [mT.cells,List.all_append,List.all_cons,aC.leafs,ar.leafs,List.all_nil,lQ,nw,nx,lD,Bool.and_self,Bool.true_and,Bool.and_true]
@[simp] theorem mT.takeAll (x:mT):x.cells.take 67=x.cells:=List.take_of_length_le (by simp)
@[simp] theorem mT.closed (x:mT):AV.closeds x.cells=true:=by
 simp [mT.cells,cX,AV.closeds,AV.closed]
end Go.Proofs.Ev
namespace Go.Proofs.Ev
open Go.Proofs
variable {C:bD} {σ:aZ}
end Go.Proofs.Ev
namespace Go.Proofs.Ev
open Go.Proofs
variable {C:bD} {σ:aZ}
end Go.Proofs.Ev
namespace Go.Proofs.Ev
open Go.Proofs
variable {C:bD} {σ:aZ}
end Go.Proofs.Ev
namespace Go.Proofs.Ev
open Go.Proofs
variable {C:bD} {σ:aZ}
def mr (a:aG):mT:=⟨a.id,a.parent,a.name⟩
theorem zz (a:aG):d5 Tryz.prog 86 [(0,.agg a.id.cells),(1,.agg a.parent.cells),(2,.str a.name)]=some (.agg (mr a).cells):=by
 have h2:a.id.cells.length=33:=by simp
 have h3:a.parent.cells.length=33:=by simp
 have h5:aM.cells.length=33:=by simp
 have l2:=a.id.leafs
 have l3:=a.parent.leafs
 have a1:(aM.cells++aM.cells++[AV.str []]).drop 33=aM.cells++[.str []]:=by rw [List.append_assoc,cK (n:=33) h5 (by decide)];rfl
 have a2:(a.id.cells++(aM.cells++[AV.str []])).drop 66=[.str []]:=by rw [cK (n:=33) h2 (by decide),cK (n:=33) h5 (by decide)];rfl
 have a3:(a.id.cells++(a.parent.cells++[AV.str []])).take 66=a.id.cells++a.parent.cells:=by rw [←List.append_assoc,List.take_append_of_le_length (by simp)];exact List.take_of_length_le (by simp)
 simp [aD,h2,h3,a1,a2,a3,mT.cells,mr]
end Go.Proofs.Ev
namespace Go.Proofs.Ev
open Go.Proofs
variable {C:bD} {σ:aZ}
section
variable {P:Program} {N base:Nat}
theorem n8 {i:Nat} {b:Code} {s:Sl} {H:ae} {Q:cV} (h:pK P C N base b s H (mh i Q)):pK P C N base (.block i b) s H Q:=by
 intro l hr
 obtain ⟨n,e,l',s',H',h1,h2,h3⟩:=h l hr
 cases e with
 | normal=>exact ⟨n+1,.normal,l',s',H',by simp only [aP];rw [h1],h2,h3⟩
 | ret=>exact ⟨n+1,.ret,l',s',H',by simp only [aP];rw [h1],h2,h3⟩
 | exit j =>
  simp only [mh] at h3
  by_cases hi:j=i
  ·rw [if_pos hi] at h3
   exact ⟨n+1,.normal,l',s',H',by simp only [aP];rw [h1];simp [hi],h2,h3⟩
  ·rw [if_neg hi] at h3
   exact ⟨n+1,.exit j,l',s',H',by simp only [aP];rw [h1];simp [hi],h2,h3⟩
theorem Aq {b:Code} {Q:cV} (n:Nat) (I:Nat→Sl→ae→Prop) {s:Sl} {H:ae} (h0:I 0 s H) (hstep:∀k s H,I k s H→k≤n→pK P C N base b s H (F4 I n k Q)):pK P C N base (.loop b) s H Q:=by
 have key:∀j k s H,I k s H→k≤n→n-k<j→pK P C N base (.loop b) s H Q:=by
  intro j
  induction j with
  | zero=>intro k s H _ _ h;omega
  | succ j ih =>
   intro k s H hi hk hj l hr
   obtain ⟨m,e,l',s',H',h1,h2,h3⟩:=hstep k s H hi hk l hr
   cases e with
   | normal =>
    obtain ⟨hkn,h3⟩:k<n∧I (k+1) s' H':=h3
    obtain ⟨m2,e,l2,s2,H2,h4,h5,h6⟩:=ih (k+1) s' H' h3 (by omega) (by omega) l' h2
    refine ⟨m+m2+1,e,l2,s2,H2,?_,h5,h6⟩
    rw [gY,eU (Nat.le_add_right m m2) h1]
    exact eU (Nat.le_add_left m2 m) h4
   | exit i=>exact ⟨m+1,.exit i,l',s',H',by rw [gY,h1],h2,h3⟩
   | ret=>exact ⟨m+1,.ret,l',s',H',by rw [gY,h1],h2,h3⟩
 exact key (n+1) 0 _ _ h0 (by omega) (by omega)
end
end Go.Proofs.Ev
namespace Go.Proofs.Ev
open Go.Proofs
variable {C:bD} {σ:aZ}
theorem vH (S:eK C σ) (v:AV) (hv:v.leaf=true) (hc:v.cells=[v]) {base:Nat} {H:ae} (K:AV→ae→Prop) :
 aF Tryz.prog C base (.fn 28 []) [v] H K=K (.fn 63 [.ptr H.length 0 1 0 0]) (H++[.rows 1 0 [[v]]]):=by
 refine aF.eq (bW (S.plainU _ (by decide)).1 (S.plainU _ (by decide)).2 (aj Tryz.func28 rfl (S.prim _ (by decide)) (by simp) (by kernel_rfl) ?_)) K
 unfold Tryz.f28
 simp [aE,hv,hc]
def gt (σ:aZ) (s:List ag) (L:List ar):List aG:=(L.map fun d=>bK σ (bY s d.d)).flatten
theorem ww {s:List ag} {L:List ar} {j:Nat} {d:ar} (h:L[j]?=some d):gt σ s (L.take (j+1))=gt σ s (L.take j)++bK σ (bY s d.d):=by
 unfold gt;rw [List.take_add_one,h];simp
theorem GV {s:List ag} (hs:cr s) {L:List ar} (hL:∀d∈L,fU s d.d=true):(gt σ s L).length≤90000*L.length :=
 iv fun d hd=>gc (bX hs (hL d hd)).1
set_option maxRecDepth 100000 in
set_option maxHeartbeats 4000000 in
theorem rI (S:eK C σ) {s0:List ag} {k:SK} (hs:cr s0) (h8:s0.length≤8) {base bl bs:Nat} {I:List aG→ae→Prop} (happ:∀l X L,I l X→I l (X++L)) (hb:∀l X,I l X→base≤X.length∧ax X bs 0 1 0=some [am k (s0.map ag.cells)])
 (hy:∀l X x,I l X→l.length≤2^20→x.over.length≤2^10→aF Tryz.prog C base (.yld bl) [.agg (aG.cells x)] X fun v X'=>v=.bool true∧I (l++[x]) X')
 {X0:ae} (h0:I [] X0) (K:AV→ae→Prop) (hK:∀X,I (gt σ s0 (cn σ s0 s0.length [])) X→K (.tup []) X) :
 dU Tryz.prog C base 63 [.yld bl,.ptr bs 0 1 0 0] X0 K:=by
 refine aj Tryz.func63 rfl (S.prim _ (by decide)) (by simp) (by kernel_rfl) ?_
 unfold Tryz.f63
 obtain ⟨L,hL⟩:∃L,L=cn σ s0 s0.length []:=⟨_,rfl⟩
 have hLm:∀d∈L,fU s0 d.d=true:=by
  intro d hd
  rw [hL] at hd
  rcases lG s0 _ _ d hd with h | ⟨x,hx,rfl⟩
  ·cases h
  ·unfold fU;rw [List.find?_isSome];exact ⟨x,hx,by simp⟩
 have hLl:L.length≤8:=by rw [hL];have:=eQ (σ:=σ) s0 s0.length [];simp at this;omega
 have eo:=(ro S.tobw s0 k hs).eq
 rw [←hL] at eo hK
 have hOl:∀j,(gt σ s0 (L.take j)).length≤720000:=fun j=>by
  have h1:=GV (σ:=σ) hs (L:=L.take j) fun d hd=>hLm d (List.mem_of_mem_take hd)
  have h2:(L.take j).length≤8:=by simp;omega
  omega
 obtain ⟨_,hb0⟩:=hb [] X0 h0
 simp [aE,hb0,eo]
 refine ay L.length (fun j s X=>s 0=.yld bl∧s 1=.ptr bs 0 1 0 0∧s 12=am (gO L) (L.map ar.cells)∧s 13=.int .i64 L.length∧s 14=.int .i64 j∧I (gt σ s0 (L.take j)) X) ?_ ?_
 ·exact ⟨rfl,rfl,rfl,rfl,rfl,h0⟩
 rintro j s X ⟨q0,q1,q12,q13,q14,hI⟩ hj
 by_cases h:j<L.length
 rotate_left
 ·have h':j=L.length:=by omega
  subst h'
  rw [List.take_length] at hI
  simp [q0,q1,q12,q13,q14]
  exact hK X hI
 obtain ⟨d,hd⟩:∃d,d=L[j]:=⟨_,rfl⟩
 have hdm:d∈L:=by rw [hd];exact List.getElem_mem h
 have hsu:=ww (σ:=σ) (s:=s0) (L:=L) (j:=j) (d:=d) (by rw [hd];exact List.getElem?_eq_getElem h)
 obtain ⟨hbX,_⟩:=hb _ X hI
 obtain ⟨hpg,_⟩:=bX hs (hLm d hdm)
 have eg:=(uB S.tobw s0 k d hs.2.2).eq
 have ea:=(lM S.tofg (bY s0 d.d) hpg).eq
 have hAl:=gc (σ:=σ) hpg
 have hAo:=rH S.permI hpg
 obtain ⟨p,hp⟩:∃p,p=bY s0 d.d:=⟨_,rfl⟩
 rw [←hp] at eg ea hAl hAo hsu
 obtain ⟨A,hA⟩:∃A,A=bK σ p:=⟨_,rfl⟩
 rw [←hA] at ea hAl hAo hsu
 have hd0:aJ.length=32:=by decide
 have hdr:List.drop 32 (dig aJ)=[]:=by decide
 have hbM:∀M,ax (X++M) bs 0 1 0=some [am k (s0.map ag.cells)]:=fun M=>(hb _ _ (happ _ X M hI)).2
 have hdM:∀M,ax (X++bL.rows 32 0 [d.cells]::M) X.length 0 32 0=some d.cells:=fun M=>by simp
 have hO:=hOl j
 simp [q0,q1,q12,q13,q14,h,←hd,ao,aD,hd0,hdr,hbX,hbM,hdM,eg,ea]
 refine ⟨by omega,ay A.length (fun i s Y=>s 0=.yld bl∧s 1=.ptr bs 0 1 0 0∧s 12=am (gO L) (L.map ar.cells)∧s 13=.int .i64 L.length∧s 14=.int .i64 j∧s 29=.lst (A.map aG.cells) false∧s 30=.int .i64 A.length∧s 31=.int .i64 i∧I (gt σ s0 (L.take j)++A.take i) Y) ?_ ?_⟩
 ·refine ⟨q0,q1,q12,q13,q14,rfl,rfl,rfl,?_⟩
  have:=happ _ X [.rows 32 0 [d.cells],.rows 5 0 [p.cells]] hI
  simpa using this
 clear q0 q1 q12 q13 q14 hI hbX hbM hdM
 rintro i s Y ⟨q0,q1,q12,q13,q14,q29,q30,q31,hI⟩ hi
 by_cases hiA:i<A.length
 rotate_left
 ·have h':i=A.length:=by omega
  subst h'
  rw [List.take_length,←hsu] at hI
  simp [q0,q1,q12,q13,q14,q29,q30,q31,au h (by omega)]
  exact ⟨h,hI⟩
 obtain ⟨a,ha⟩:∃a,a=A[i]:=⟨_,rfl⟩
 obtain ⟨hbY,_⟩:=hb _ Y hI
 have haM:∀M,ax (Y++bL.rows 172 0 [a.cells]::M) Y.length 0 172 0=some a.cells:=fun M=>by simp
 obtain ⟨Z,hZ,ey⟩:=aF.ex (hy _ _ a (happ _ Y [.rows 172 0 [a.cells]] hI) (by simp;omega) (hAo a (by rw [ha];exact List.getElem_mem hiA)))
 have hap:gt σ s0 (L.take j)++A.take i++[a]=gt σ s0 (L.take j)++A.take (i+1):=by
  rw [List.append_assoc,List.take_add_one,List.getElem?_eq_getElem hiA,ha];rfl
 rw [hap] at hZ
 simp [q0,q1,q12,q13,q14,q29,q30,q31,hiA,←ha,ao,aD,hbY,haM,ey,au hiA (by omega)]
 exact hZ
def cT (file:aC) (l:List aG):List mT:=(l.filter fun a=>decide (a.kind=2)&&aB a.file file).map mr
theorem qe (file:aC) (l:List aG) (a:aG):cT file (l++[a])=cT file l++if a.kind=2∧aB a.file file=true then [mr a] else []:=by
 unfold cT;rw [List.filter_append]
 by_cases h:a.kind=2<;>cases h2:aB a.file file<;>simp [h,h2]
theorem nq (file:aC) (l:List aG):(cT file l).length≤l.length:=by
 unfold cT;rw [List.length_map];exact List.length_filter_le _ _
structure Iu (base lo bl bs fb ob:Nat) (LB:bL) (v0:AV) (file:aC) (l:List aG) (X:ae):Prop where
 hbl:X[bl]?=some LB
 hbs:ax X bs 0 1 0=some [v0]
 hfb:ax X fb 0 33 0=some file.cells
 o:∃v,X[ob]?=some (.rows 1 0 [[v]])∧kX lo 67 X v ((cT file l).map mT.cells)
 low:base≤lo∧base≤ob∧base≤bl∧bl<lo∧bs<lo∧fb<lo∧ob<lo∧lo≤X.length∧bl≠ob∧bl≠bs∧bl≠fb∧ob≠bs∧ob≠fb
theorem Iu.app {base lo bl bs fb ob:Nat} {LB:bL} {v0:AV} {file:aC} {l:List aG} {X:ae} (h:Iu base lo bl bs fb ob LB v0 file l X) (M:ae):Iu base lo bl bs fb ob LB v0 file l (X++M):=by
 obtain ⟨h1,h2,h3,⟨v,h4,h5⟩,h6⟩:=h
 have hk:∀{b:Nat} {blk:bL},X[b]?=some blk→(X++M)[b]?=some blk:=fun h=>by rw [List.getElem?_append_left (List.getElem?_eq_some_iff.1 h).1];exact h
 exact ⟨hk h1,bM h2 M,bM h3 M,⟨v,hk h4,h5.app M⟩,by simp;omega⟩
theorem Gp (S:eK C σ) {s0:List ag} {k:SK} (hs:cr s0) (h8:s0.length≤8) {base lo bl bs fb ob nb po:Nat} {file:aC} {l1:List AV} {ps:List Tmp} {asg bd:Code} {X:ae} (hnb:nb=bl) (hpo:po=bs)
 (hy:∀(LB BB:bL) (_:cm l1 ps asg bd=LB) (_:mI l1 ps asg bd=BB) (l:List aG) (V:ae) (y:aG),Iu base lo bl bs fb ob LB (am k (s0.map ag.cells)) file l V→l.length≤2^20→
  aF Tryz.prog C base (.yld bl) [.agg y.cells] V fun v V'=>v=.bool true∧Iu base lo bl bs fb ob LB (am k (s0.map ag.cells)) file (l++[y]) V')
 (h0:Iu base lo bl bs fb ob (cm l1 ps asg bd) (am k (s0.map ag.cells)) file [] (X++[cm l1 ps asg bd])) (K:AV→ae→Prop)
 (hK:∀V,Iu base lo bl bs fb ob (cm l1 ps asg bd) (am k (s0.map ag.cells)) file (gt σ s0 (cn σ s0 s0.length [])) V→K (.tup []) V) :
 dU Tryz.prog C base 63 [.yld nb,.ptr po 0 1 0 0] (X++[cm l1 ps asg bd]) K:=by
 subst hnb;subst hpo
 exact rI S (k:=k) hs h8 (I:=Iu base lo nb po fb ob (cm l1 ps asg bd) (am k (s0.map ag.cells)) file) (fun l X L h=>h.app L) (fun l X h=>⟨by have:=h.low;omega,h.hbs⟩) (fun l X x h hl _=>hy _ _ rfl rfl l X x h hl) h0 K hK
set_option maxRecDepth 100000 in
set_option maxHeartbeats 4000000 in
theorem BW (S:eK C σ) (s0:List ag) (k:SK) (file:aC) (hs:cr s0) (h8:s0.length≤8) (he:ly σ s0 file 1=0) :
 b8 Tryz.prog C 10 [] [am k (s0.map ag.cells),.agg file.cells] (.tup [am (gO (cT file (gt σ s0 (cn σ s0 s0.length [])))) ((cT file (gt σ s0 (cn σ s0 s0.length []))).map mT.cells),.int .i64 0]):=by
 refine aw (S.pureU _ (by decide)) fun H=>aj Tryz.func10 rfl (S.prim _ (by decide)) (by simp) (by kernel_rfl) ?_
 unfold Tryz.f10
 have ef:=(nW S.toba s0 k file 1 hs).eq
 rw [he] at ef
 obtain ⟨v,hv⟩:∃v,v=am k (s0.map ag.cells):=⟨_,rfl⟩
 have hvl:v.leaf=true:=by rw [hv];simp
 have hvc:v.cells=[v]:=by rw [hv];simp
 have ep:=fun (X:ae) (K:AV→ae→Prop)=>vH S v hvl hvc (base:=H.length) (H:=X) K
 rw [←hv] at ef ⊢
 obtain ⟨O,hO⟩:∃O,O=gt σ s0 (cn σ s0 s0.length []):=⟨_,rfl⟩
 rw [←hO]
 refine cut (fun s X=>s 0=v∧s 3=.ptr H.length 0 33 0 0∧X=H++[.rows 33 0 [file.cells]]) ?_ ?_
 ·simp [aE]
 rintro s X ⟨q0,q3,rfl⟩
 refine cut (fun s X=>s 0=v∧s 3=.ptr H.length 0 33 0 0∧X=H++[.rows 33 0 [file.cells]]) ?_ ?_
 ·simp [q0,q3,ef]
 clear q0 q3
 rintro s X ⟨q0,q3,rfl⟩
 refine cut (fun s X=>s 0=v∧s 3=.ptr H.length 0 33 0 0∧s 7=.ptr (H.length+1) 0 1 0 0∧X=H++[.rows 33 0 [file.cells],.rows 1 0 [[.nils]]]) ?_ ?_
 ·simp [q0,q3]
 clear q0 q3
 rintro s X ⟨q0,q3,q7,rfl⟩
 refine cut (fun s X=>s 7=.ptr (H.length+1) 0 1 0 0∧∃w,X[H.length+1]?=some (.rows 1 0 [[w]])∧kX (H.length+4) 67 X w ((cT file O).map mT.cells)) ?_ ?_
 rotate_left
 ·rintro s X ⟨q7,w,hw,hS⟩
  have hf:=hS.freeze (k:=H.length) (d:=1) (by omega) (aH mT.closed _)
  have hk:gO ((cT file O).map mT.cells)=gO (cT file O):=by unfold gO;cases cT file O<;>rfl
  rw [hk] at hf
  have hr:ax X (H.length+1) 0 1 0=some [w]:=by simp [ax,hw]
  simp [q7,hr]
  exact bb hf (by simp)
 refine cut (fun s X=>s 3=.ptr H.length 0 33 0 0∧s 7=.ptr (H.length+1) 0 1 0 0∧s 16=.fn 63 [.ptr (H.length+2) 0 1 0 0]∧X=H++[.rows 33 0 [file.cells],.rows 1 0 [[.nils]],.rows 1 0 [[v]]]) ?_ ?_
 ·simp [q0,q3,q7,ep]
 clear q0 q3 q7
 rintro s X ⟨q3,q7,q16,rfl⟩
 rw [fI,lU]
 refine gw (f:=63) (caps:=[.ptr (H.length+2) 0 1 0 0]) (by simp [q16]) fun l1 hr1=>?_
 obtain ⟨X0,hX0⟩:∃X0,X0=H++[.rows 33 0 [file.cells],.rows 1 0 [[.nils]],.rows 1 0 [[v]]]:=⟨_,rfl⟩
 have hX0l:X0.length=H.length+3:=by rw [hX0];simp
 rw [←hX0,hX0l]
 have g0:X0[H.length]?=some (.rows 33 0 [file.cells]):=by rw [hX0,yF];rfl
 have g1:X0[H.length+1]?=some (.rows 1 0 [[.nils]]):=by rw [hX0,bq];rfl
 have g2:X0[H.length+2]?=some (.rows 1 0 [[v]]):=by rw [hX0,bq];rfl
 refine Gp S (k:=k) (base:=H.length) (lo:=H.length+4) (bl:=H.length+3) (bs:=H.length+2) (fb:=H.length) (ob:=H.length+1) (file:=file) hs h8 rfl rfl ?_ ?_ _ ?_
 ·rw [←hv]
  rintro LB BB hLB hBB l V y hF hl
  have hLr:∀sz g rs,LB≠.rows sz g rs:=by intro sz g rs h;rw [←hLB] at h;cases h
  have hBr:∀sz g rs,BB≠.rows sz g rs:=by intro sz g rs h;rw [←hBB] at h;cases h
  obtain ⟨hbl,hbs,hfb,⟨w,hw,hS⟩,hlow⟩:=hF
  have hblV:H.length+3<V.length:=(List.getElem?_eq_some_iff.1 hbl).1
  obtain ⟨W,hW⟩:∃W,W=V.set (H.length+3) BB:=⟨_,rfl⟩
  have hWl:W.length=V.length:=by rw [hW];simp
  have hgl:∀M,(V++M)[H.length+3]?=some LB:=fun M=>by rw [List.getElem?_append_left hblV];exact hbl
  have hsl:∀M,(V++M).set (H.length+3) BB=W++M:=fun M=>by rw [hW];exact List.set_append_left _ _ hblV
  have hWb:∀M,(W++M)[H.length+3]?=some BB:=fun M=>by rw [List.getElem?_append_left (by omega),hW,List.getElem?_set_self hblV]
  have up:∀{b:Nat} {blk:bL},b≠H.length+3→V[b]?=some blk→W[b]?=some blk:=fun hb h=>by rw [hW,List.getElem?_set_ne (Ne.symm hb)];exact h
  have upr:∀{b e:Nat} {r:List AV},b≠H.length+3→ax V b 0 e 0=some r→ax W b 0 e 0=some r:=fun hb h=>by
   unfold ax at h ⊢
   rw [hW,List.getElem?_set_ne (Ne.symm hb)];exact h
  have hfW:∀M,ax (W++M) H.length 0 33 0=some file.cells:=fun M=>bM (upr (by omega) hfb) M
  have hyW:∀M,ax (W++bL.rows 172 0 [y.cells]::M) V.length 0 172 0=some y.cells:=fun M=>by rw [←hWl];simp
  have hwW:∀M,ax (W++M) (H.length+1) 0 1 0=some [w]:=fun M=>bM (upr (by omega) (by simp [ax,hw])) M
  have hSW:kX (H.length+4) 67 W w ((cT file l).map mT.cells):=hS.keep fun b g rs hb h=>up (by omega) h
  have hbV:H.length≤V.length:=by omega
  have hsn:=qe file l y
  have hfl:=nq file l
  have e:=gZ S.toaz
  have back:∀{Z:ae},Z[H.length+3]?=some BB→(∀(b:Nat) (blk:bL),V[b]?=some blk→b≠H.length+3→b≠H.length+1→b<H.length+4→Z[b]?=some blk)→(∃u,Z[H.length+1]?=some (.rows 1 0 [[u]])∧kX (H.length+4) 67 Z u ((cT file (l++[y])).map mT.cells))→
   Iu H.length (H.length+4) (H.length+3) (H.length+2) H.length (H.length+1) LB v file (l++[y]) (Z.set (H.length+3) LB):=by
   rintro Z hZ hk ⟨u,hu,hSu⟩
   have hZl:=(List.getElem?_eq_some_iff.1 hZ).1
   have dn:∀{b e:Nat} {r:List AV},b≠H.length+3→b≠H.length+1→b<H.length+4→ax V b 0 e 0=some r→ax (Z.set (H.length+3) LB) b 0 e 0=some r:=fun {b e r} hb1 hb2 hb3 h=>by
    unfold ax at h ⊢
    rw [List.getElem?_set_ne (Ne.symm hb1)]
    cases hx:V[b]? with
    | none=>rw [hx] at h;cases h
    | some blk=>rw [hx] at h;rw [hk b blk hx hb1 hb2 hb3];exact h
   refine ⟨by rw [List.getElem?_set_self hZl],dn (by omega) (by omega) (by omega) hbs,dn (by omega) (by omega) (by omega) hfb,⟨u,by rw [List.getElem?_set_ne (by omega)];exact hu,hSu.keep fun b g rs hb h=>by rw [List.getElem?_set_ne (by omega)];exact h⟩,by simp;omega⟩
  refine gy hr1 (hget:=by rw [hLB];exact hbl) (by omega) rfl (by decide) (by kernel_rfl) (by kernel_rfl) ?_
  rw [hLB,hBB]
  have keep0:∀(M:ae) (b:Nat) (blk:bL),V[b]?=some blk→b≠H.length+3→(W++M)[b]?=some blk:=fun M b blk h hb=>by
   have:=up hb h
   rw [List.getElem?_append_left (List.getElem?_eq_some_iff.1 this).1];exact this
  by_cases hk2:y.kind=2
  rotate_left
  ·rw [if_neg (by intro h;exact hk2 h.1),List.append_nil] at hsn
   have hk2b:(y.kind==2)=false:=by simpa using hk2
   simp [q3,q7,ao,aD,hbV,hgl,hsl,hyW,hk2b,an,hWb,hLB]
   exact ⟨rfl,back (Z:=W++[bL.rows 172 0 [y.cells]]) (hWb _) (fun b blk h h1 h2 h3=>keep0 _ b blk h h1) ⟨w,keep0 _ _ _ hw (by omega),by rw [hsn];exact hSW.app _⟩⟩
  cases hf2:aB y.file file with
  | false =>
   rw [if_neg (by intro h;rw [hf2] at h;cases h.2),List.append_nil] at hsn
   simp [q3,q7,ao,aD,hbV,hgl,hsl,hyW,hk2,an,hfW,e,hf2,hWb,hLB]
   exact ⟨rfl,back (Z:=W++[bL.rows 172 0 [y.cells]]) (hWb _) (fun b blk h h1 h2 h3=>keep0 _ b blk h h1) ⟨w,keep0 _ _ _ hw (by omega),by rw [hsn];exact hSW.app _⟩⟩
  | true =>
   rw [if_pos ⟨hk2,hf2⟩] at hsn
   have nb:=zz y
   obtain ⟨nc,hnc⟩:∃nc,nc=(mr y).cells:=⟨_,rfl⟩
   rw [←hnc] at nb
   have hncl:nc.length=67:=by rw [hnc];simp
   have hnca:∀x∈nc,x.leaf=true:=by rw [hnc];exact List.all_eq_true.1 (mr y).leafs
   obtain ⟨u,Z,ea,hS',hl',⟨b',g',l',hu'⟩,hk'⟩:=(hSW.app [.rows 172 0 [y.cells]]).append (P:=Tryz.prog) (base:=H.length) (ts:=#[37,37]) (e:=86) (xd:=.slice 86) (x:=.lst [nc] true) (ys:=[nc])
    (by simp) (by simp) Mq ND (by simp) (by decide) (by omega) (by simp;omega) rfl (by simp [hncl]) (by simp) (by simp;omega)
   have hwnot:∀b g l,w=.sl b g 67 0 l→H.length+4≤b:=by
    intro b g l h1
    rcases hS with ⟨_,h2⟩ | ⟨_,b2,g2,h2,h3,h4⟩
    ·rw [h1] at h2;cases h2
    ·rw [h1] at h2;cases h2;exact h4
   have hkz:∀(b:Nat) (blk:bL),V[b]?=some blk→b≠H.length+3→b<H.length+4→Z[b]?=some blk:=fun b blk h h1 h2=>(hk' b blk (keep0 _ b blk h h1) fun b2 g l h3=>by have:=hwnot b2 g l h3;omega).1
   have hZ1:Z[H.length+1]?=some (.rows 1 0 [[w]]):=hkz _ _ hw (by omega) (by omega)
   have hZb:Z[H.length+3]?=some BB:=(hk' _ _ (hWb _) fun b2 g l h3=>by have:=hwnot b2 g l h3;omega).1
   have hZl:H.length+1<Z.length:=(List.getElem?_eq_some_iff.1 hZ1).1
   have hul:u.leaf=true∧u.cells=[u]:=by rw [hu'];exact ⟨rfl,rfl⟩
   have hb1:H.length≤H.length+1:=by omega
   simp [-NA,q3,q7,ao,aD,hbV,hgl,hsl,hyW,hk2,an,hfW,e,hf2,hwW,nb,ah,aq,hncl,hnca,ea,hZ1,hul.1,hul.2,hZb,hLB]
   refine ⟨hnca,rfl,back (Z:=Z.set (H.length+1) (.rows 1 0 [[u]])) (by rw [List.getElem?_set_ne (by omega)];exact hZb) (fun b blk h h1 h2 h3=>by rw [List.getElem?_set_ne (by omega)];exact hkz b blk h h1 h3) ⟨u,by rw [List.getElem?_set_self hZl],?_⟩⟩
   have hS2:=hS'.keep (X':=Z.set (H.length+1) (.rows 1 0 [[u]])) fun b g rs hb h=>by rw [List.getElem?_set_ne (by omega)];exact h
   rw [hsn,List.map_append,List.map_singleton,←hnc];exact hS2
 ·rw [←hv]
  exact ⟨by rw [List.getElem?_append_right (by omega),hX0l];simp,bM (by simp [ax,g2]) _,bM (by simp [ax,g0]) _,⟨.nils,by rw [List.getElem?_append_left (by omega)];exact g1,.inl ⟨rfl,rfl⟩⟩,by simp;omega⟩
 ·rintro V ⟨hbl,hbs,hfb,⟨w,hw,hS⟩,hlow⟩
  rw [fo hbl]
  simp
  rw [←hO] at hS
  exact ⟨q7,w,hw,hS.keep fun b g rs hb h=>by rw [List.getElem?_set_ne (by omega)];exact h⟩
end Go.Proofs.Ev
namespace Go.Proofs.Ev
open Go.Proofs
variable {C:bD} {σ:aZ}
structure li (C:bD) (σ:aZ):Prop extends eK C σ where
 pureW:∀f,f∈[8]→C.pure f=true
def mQ (l:List (aC×Bool)):List (aC×AV):=l.map fun x=>(x.1,.bool x.2)
def qH (l:List (aC×Bool)) (d:aC) (b:Bool):List (aC×Bool) :=
 match l with
 | []=>[(d,b)]
 | x::l=>if aB x.1 d then (d,b)::l else x::qH l d b
def iy (l:List (aC×Bool)) (d:aC):Bool :=
 match l with
 | []=>false
 | x::l=>if aB x.1 d then x.2 else iy l d
theorem xV:∀(l:List (aC×Bool)) (d:aC),(fG (mQ l) d=none→iy l d=false∧∀b,qH l d b=l++[(d,b)])∧(∀i v,fG (mQ l) d=some (i,v)→v=.bool (iy l d)∧∀b,qH l d b=l.set i (d,b))
 | [],d=>by simp [mQ,fG,iy,qH]
 | x::l,d=>by
  obtain ⟨h1,h2⟩:=xV l d
  have hc:fG (mQ (x::l)) d=if aB x.1 d then some (0,.bool x.2) else (fG (mQ l) d).map fun p=>(p.1+1,p.2):=rfl
  rw [hc,iy]
  cases hs:aB x.1 d with
  | true =>
   refine ⟨fun h=>by simp at h,fun i v h=>?_⟩
   simp at h
   obtain ⟨rfl,rfl⟩:=h
   refine ⟨by simp,fun b=>?_⟩
   rw [qH,hs];simp
  | false =>
   simp only [Bool.false_eq_true,if_false]
   refine ⟨fun h=>?_,fun i v h=>?_⟩
   ·obtain ⟨a,b⟩:=h1 (by simpa using h)
    refine ⟨a,fun c=>?_⟩
    rw [qH,hs,b c];simp
   ·cases hp:fG (mQ l) d with
    | none=>rw [hp] at h;cases h
    | some p =>
     rw [hp] at h
     cases h
     obtain ⟨a,b⟩:=h2 p.1 p.2 hp
     refine ⟨a,fun c=>?_⟩
     rw [qH,hs,b c];simp
theorem GK (S:az C) {X:ae} {m:Nat} {l:List (aC×Bool)} (hm:X[m]?=some (.map (dL (mQ l)))) (d:aC):cU Tryz.prog C X 78 (.map m) (.agg d.cells) false=some (.bool (iy l d)):=by
 have hf:=oY S d (mQ l) 0
 obtain ⟨h1,h2⟩:=xV l d
 simp only [cU,Kd,mp S,iY,hm,hf,if_true]
 cases hp:fG (mQ l) d with
 | none=>rw [(h1 hp).1];simp
 | some p=>rw [←(h2 p.1 p.2 hp).1];simp
theorem Kg (S:az C) {base:Nat} {X:ae} {m:Nat} {l:List (aC×Bool)} (hb:base≤m) (hm:X[m]?=some (.map (dL (mQ l)))) (d:aC) (b:Bool) :
 dS Tryz.prog C base X 78 (.map m) (.agg d.cells) (.bool b)=some (X.set m (.map (dL (mQ (qH l d b))))):=by
 have hf:=oY S d (mQ l) 0
 obtain ⟨h1,h2⟩:=xV l d
 simp only [dS,Kd,mp S,hm,hf,hb,and_self,if_true]
 cases hp:fG (mQ l) d with
 | none =>
  rw [(h1 hp).2 b]
  simp [dL,mQ]
 | some p =>
  rw [(h2 p.1 p.2 hp).2 b]
  simp [dL,mQ,List.map_set]
def xq (file:aC) (T:List (aC×Bool)) (x:aG):Bool:=if x.kind=7 then x.over.any (iy T) else aB x.file file
def oi (file:aC) (a:List (aC×Bool)×List ar) (x:aG):List (aC×Bool)×List ar :=
 (qH a.1 x.id (xq file a.1 x),if xq file a.1 x=true∧(a.2.getLast?.map (·.d))≠some x.id.d then a.2++[x.id.dv] else a.2)
def iD (file:aC) (l:List aG):List (aC×Bool)×List ar:=l.foldl (oi file) ([],[])
theorem ru (file:aC) (l:List aG) (x:aG):iD file (l++[x])=oi file (iD file l) x:=by unfold iD;rw [List.foldl_append];rfl
theorem H8 (file:aC) (l:List aG):(iD file l).2.length≤l.length:=by
 have key:∀(l:List aG) (a:List (aC×Bool)×List ar),(l.foldl (oi file) a).2.length≤a.2.length+l.length:=by
  intro l
  induction l with
  | nil=>intro a;simp
  | cons x l ih =>
   intro a
   have h1:=ih (oi file a x)
   have h2:(oi file a x).2.length≤a.2.length+1:=by
    unfold oi;simp only;split<;>simp
   simp only [List.foldl_cons,List.length_cons];omega
 have:=key l ([],[])
 simpa [iD] using this
structure Fi (base lo bl bs fb mb m ob:Nat) (LB:bL) (v0:AV) (file:aC) (l:List aG) (X:ae):Prop where
 hbl:X[bl]?=some LB
 hbs:ax X bs 0 1 0=some [v0]
 hfb:ax X fb 0 33 0=some file.cells
 hmb:ax X mb 0 1 0=some [.map m]
 hm:X[m]?=some (.map (dL (mQ (iD file l).1)))
 o:∃v,X[ob]?=some (.rows 1 0 [[v]])∧kX lo 32 X v ((iD file l).2.map ar.cells)
 low:base≤lo∧base≤ob∧base≤bl∧base≤m∧bl<lo∧bs<lo∧fb<lo∧mb<lo∧m<lo∧ob<lo∧lo≤X.length∧bl≠ob∧bl≠bs∧bl≠fb∧bl≠mb∧bl≠m∧ob≠bs∧ob≠fb∧ob≠mb∧ob≠m∧m≠bs∧m≠fb∧m≠mb
theorem Fi.app {base lo bl bs fb mb m ob:Nat} {LB:bL} {v0:AV} {file:aC} {l:List aG} {X:ae} (h:Fi base lo bl bs fb mb m ob LB v0 file l X) (M:ae):Fi base lo bl bs fb mb m ob LB v0 file l (X++M):=by
 obtain ⟨h1,h2,h3,h4,h5,⟨v,h6,h7⟩,h8⟩:=h
 have hk:∀{b:Nat} {blk:bL},X[b]?=some blk→(X++M)[b]?=some blk:=fun h=>by rw [List.getElem?_append_left (List.getElem?_eq_some_iff.1 h).1];exact h
 exact ⟨hk h1,bM h2 M,bM h3 M,bM h4 M,hk h5,⟨v,hk h6,h7.app M⟩,by simp;omega⟩
theorem H7 (S:eK C σ) {s0:List ag} {k:SK} (hs:cr s0) (h8:s0.length≤8) {base lo bl bs fb mb m ob nb po:Nat} {file:aC} {l1:List AV} {ps:List Tmp} {asg bd:Code} {X:ae} (hnb:nb=bl) (hpo:po=bs)
 (hy:∀(LB BB:bL) (_:cm l1 ps asg bd=LB) (_:mI l1 ps asg bd=BB) (l:List aG) (V:ae) (y:aG),Fi base lo bl bs fb mb m ob LB (am k (s0.map ag.cells)) file l V→l.length≤2^20→y.over.length≤2^10→
  aF Tryz.prog C base (.yld bl) [.agg y.cells] V fun v V'=>v=.bool true∧Fi base lo bl bs fb mb m ob LB (am k (s0.map ag.cells)) file (l++[y]) V')
 (h0:Fi base lo bl bs fb mb m ob (cm l1 ps asg bd) (am k (s0.map ag.cells)) file [] (X++[cm l1 ps asg bd])) (K:AV→ae→Prop)
 (hK:∀V,Fi base lo bl bs fb mb m ob (cm l1 ps asg bd) (am k (s0.map ag.cells)) file (gt σ s0 (cn σ s0 s0.length [])) V→K (.tup []) V) :
 dU Tryz.prog C base 63 [.yld nb,.ptr po 0 1 0 0] (X++[cm l1 ps asg bd]) K:=by
 subst hnb;subst hpo
 exact rI S (k:=k) hs h8 (I:=Fi base lo nb po fb mb m ob (cm l1 ps asg bd) (am k (s0.map ag.cells)) file) (fun l X L h=>h.app L) (fun l X h=>⟨by have:=h.low;omega,h.hbs⟩) (fun l X x h hl ho=>hy _ _ rfl rfl l X x h hl ho) h0 K hK
end Go.Proofs.Ev
