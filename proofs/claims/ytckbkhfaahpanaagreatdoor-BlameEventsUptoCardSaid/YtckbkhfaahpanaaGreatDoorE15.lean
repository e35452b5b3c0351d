/- Part 15 of the proof that quiltlaw38.BlameEvents returns true: no statement of its own. -/
import Derived.Test.YtckbkhfaahpanaaGreatDoorE14
set_option linter.all false
namespace Go.Proofs.Ev
open Go.Proofs
variable {C : Cfg}
def ordC (s : List StoredV) (out : List DigV) (x : StoredV) (k : Int) : Bool :=
 !hasD out x.id.d && allD out (needsR x.patch).2 && (decide (k < 0) || match s[k.toNat]? with | some y => decide (cmpD x.id.d y.id.d < 0) | none => false)
def pickN (s : List StoredV) (out : List DigV) : Nat → Int
 | 0 => -1
 | i + 1 => match s[i]? with | some x => if ordC s out x (pickN s out i) then (i : Int) else pickN s out i | none => pickN s out i
theorem pickN_spec (s : List StoredV) (out : List DigV) : ∀ i,-1 ≤ pickN s out i ∧ pickN s out i < i ∧ (0 ≤ pickN s out i → ∃ x,s[(pickN s out i).toNat]? = some x ∧ hasD out x.id.d = false ∧ allD out (needsR x.patch).2 = true)
 | 0 => by simp [pickN]
 | i + 1 => by
  have ih := pickN_spec s out i
  rw [pickN]
  cases hx : s[i]? with
  | none => simp only; exact ⟨ih.1,by omega,ih.2.2⟩
  | some x =>
   simp only
   by_cases hc : ordC s out x (pickN s out i) = true
   ·rw [if_pos hc]
    simp only [ordC,Bool.and_eq_true,Bool.not_eq_true'] at hc
    exact ⟨by omega,by omega,fun _ => ⟨x,by simpa using hx,hc.1.1,hc.1.2⟩⟩
   ·rw [if_neg hc]; exact ⟨ih.1,by omega,ih.2.2⟩
def ordN (s : List StoredV) : Nat → List DigV → List DigV
 | 0,out => out
 | n + 1,out => match s[(pickN s out s.length).toNat]? with | some x => if pickN s out s.length < 0 then out else ordN s n (out ++ [x.id]) | none => out
inductive Ordered (s : List StoredV) : List DigV → Prop
 | nil : Ordered s []
 | snoc {out : List DigV} {x : StoredV} (h : Ordered s out) (hx : x ∈ s) (h1 : hasD out x.id.d = false) (h2 : allD out (needsR x.patch).2 = true) : Ordered s (out ++ [x.id])
theorem ordN_ordered (s : List StoredV) : ∀ n out,Ordered s out → Ordered s (ordN s n out)
 | 0,out,h => h
 | n + 1,out,h => by
  rw [ordN]
  cases hx : s[(pickN s out s.length).toNat]? with
  | none => exact h
  | some x =>
   simp only
   split
   ·exact h
   ·rename_i hp
    obtain ⟨y,hy,h1,h2⟩ := (pickN_spec s out s.length).2.2 (by omega)
    rw [hx] at hy; cases hy
    exact ordN_ordered s n _ (.snoc h (List.mem_of_getElem? hx) h1 h2)
theorem needs_len {p : PatchV} (hp : p.Fit) : (needsR p).2.length ≤ 2 ^ 40 := by
 unfold needsR
 split
 ·simp
 ·have h1 := fold_len withR_len p.deps (.exact,[])
  have h2 := chgs_len p.changes hp.over (p.deps.foldl withR (.exact,[]))
  have := hp.deps
  have := hp.changes
  simp at h1; omega
set_option maxRecDepth 100000 in
set_option maxHeartbeats 4000000 in
theorem ret_order17 (S : Setting8 C) (l : List StoredV) (k : SK) (hl : SetFit l) : Ret Tryz.prog C 38 [] [slAV k (l.map StoredV.cells)] (slAV (exK (ordN l l.length [])) ((ordN l l.length []).map DigV.cells)) := by
 refine ret_pure (S.pure7 _ (by decide)) fun H => func_rule Tryz.func38 rfl (S.prim _ (by decide)) (by simp) (by kernel_rfl) ?_
 unfold Tryz.f38
 have hn := hl.n
 simp [argS,buildSliceA,fillRows]
 refine loop_count l.length (fun i s H' => ∃ J out,H' = H ++ J ∧ s 0 = slAV k (l.map StoredV.cells) ∧ out.length = i ∧ GrowX H.length 32 J (s 3) (out.map DigV.cells) ∧ (out = [] → s 3 = .lst [] true) ∧ (s 3 = .lst [] true ∨ ∃ b g l,s 3 = .sl b g 32 0 l) ∧ ordN l l.length [] = ordN l (l.length - i) out) ?_ ?_
 ·exact ⟨[],[],by simp,rfl,rfl,.lst [],fun _ => rfl,.inl rfl,rfl⟩
 rintro i s H' ⟨J,out,rfl,e0,ho,hg,hz,hz2,hord⟩ hi
 have hlen := fun HH => hg.len (P := Tryz.prog) (t := 60) (e := 25) (H := HH) (by simp)
 rw [List.length_map,ho] at hlen
 have hf := fun k d hk => hg.freezeE (Z := H) (L := []) (k := k) (d := d) rfl hk (closedss_map DigV.closed _) (fun h => hz (by simpa using h)) hz2
 simp only [List.append_nil] at hf
 have hk : exK (out.map DigV.cells) = exK out := by unfold exK; cases out <;> rfl
 rw [hk] at hf
 by_cases h : i < l.length
 ·have hnn : l.length - i = (l.length - (i + 1)) + 1 := by omega
  rw [hnn,ordN] at hord
  have cmp : ∀ a b : DigV,∀ base H K,CallW Tryz.prog C base (.fn 34 []) [.agg a.cells,.agg b.cells] H K = K (.int .i64 (cmpD a.d b.d)) H := fun a b => (ret_cmpD (S.prim _ (by decide)) (S.pure _ (by decide)) a.d b.d a.h b.h).eq
  have f0 := hf 0 5 (Nat.zero_le _)
  have cHas : ∀ d : DigV,∀ base K,CallW Tryz.prog C base (.fn 67 []) [s 3,.agg d.cells] (H ++ J) K = K (.bool (hasD out d.d)) (H ++ J) := fun d base K => (ret_has S.toSetting7 out (exK out) d (by omega)).eq base (H ++ J) (by rw [List.append_nil,List.mapM_cons,f0,List.mapM_cons,List.mapM_nil,freeze_closed (v := .agg d.cells) (DigV.closed d)]; rfl) K
  have cAll : ∀ x : PatchV,x.Fit → ∀ base K,CallW Tryz.prog C base (.fn 36 []) [s 3,slAV (needsR x).1 ((needsR x).2.map DigV.cells)] (H ++ J) K = K (.bool (allD out (needsR x).2)) (H ++ J) := fun x hx base K => (ret_all S.toSetting7 out (needsR x).2 (exK out) (needsR x).1 (by omega) (needs_len hx)).eq base (H ++ J) (by rw [List.append_nil,List.mapM_cons,f0,List.mapM_cons,List.mapM_nil,freeze_closed (slAV_closed (closedss_map DigV.closed _))]; rfl) K
  generalize hV : s 3 = V at *
  simp [e0,hlen,hV,h]
  refine loop_count l.length (fun j s' H' => H' = H ++ J ∧ s' 0 = slAV k (l.map StoredV.cells) ∧ s' 3 = V ∧ s' 5 = .int .i64 j ∧ s' 4 = .int .i64 (pickN l out j)) ?_ ?_
  ·exact ⟨rfl,e0,hV,rfl,rfl⟩
  rintro j s' H' ⟨rfl,e0,e3,e5,e4⟩ hj
  by_cases hjl : j < l.length
  ·have hpf := hl.p _ (List.getElem_mem hjl)
   have cN := (ret_needs S.toSetting7 l[j].patch hpf.ok hpf.ok2 hpf.deps hpf.changes hpf.over).eq
   have cA := cAll _ hpf
   have hps := pickN_spec l out j
   have hnext : pickN l out (j + 1) = if ordC l out l[j] (pickN l out j) then (j : Int) else pickN l out j := by rw [pickN,List.getElem?_eq_getElem hjl]
   generalize hP : pickN l out j = P at *
   cases hh : hasD out l[j].id.d with
   | true =>
    have hcc : ordC l out l[j] P = false := by unfold ordC; rw [hh]; rfl
    rw [hcc] at hnext
    simp [e0,e3,e5,e4,hjl,guardV,cHas,hh,wrap_succ hjl (by omega)]
    simpa using hnext.symm
   | false =>
    cases ha : allD out (needsR l[j].patch).2 with
    | false =>
     have hcc : ordC l out l[j] P = false := by unfold ordC; rw [hh,ha]; rfl
     rw [hcc] at hnext
     simp [e0,e3,e5,e4,hjl,guardV,cHas,hh,cN,cA,ha,wrap_succ hjl (by omega)]
     simpa using hnext.symm
    | true =>
     by_cases hP0 : P < 0
     ·have hcc : ordC l out l[j] P = true := by unfold ordC; rw [hh,ha]; simp [hP0]
      rw [hcc] at hnext
      simp [e0,e3,e5,e4,hjl,guardV,cHas,hh,cN,cA,ha,hP0,wrap_succ hjl (by omega)]
      simpa using hnext.symm
     ·obtain ⟨q,hq⟩ : ∃ q : Nat,P = (q : Int) := ⟨P.toNat,by omega⟩
      subst hq
      have hql : q < l.length := by omega
      have hcc : ordC l out l[j] (q : Int) = decide (cmpD l[j].id.d l[q].id.d < 0) := by unfold ordC; rw [hh,ha]; simp [hql,show ¬ (q : Int) < 0 by omega]
      rw [hcc] at hnext
      by_cases hcm : cmpD l[j].id.d l[q].id.d < 0
      ·simp [hcm] at hnext
       simp [e0,e3,e5,e4,hjl,hql,guardV,cHas,hh,cN,cA,ha,hP0,cmp,hcm,wrap_succ hjl (by omega)]
       exact hnext.symm
      ·simp [hcm] at hnext
       simp [e0,e3,e5,e4,hjl,hql,guardV,cHas,hh,cN,cA,ha,hP0,cmp,hcm,wrap_succ hjl (by omega)]
       exact hnext.symm
  ·have hj' : j = l.length := by omega
   subst hj'
   have hps := pickN_spec l out l.length
   generalize hP : pickN l out l.length = P at *
   by_cases hP0 : P < 0
   ·have hres : ordN l l.length [] = out := by
     rw [hord]
     cases l[P.toNat]? with
     | none => rfl
     | some x => simp [hP0]
    rw [hres]
    simp [e0,e3,e5,e4,hP0]
    exact hf H.length 2 (Nat.le_refl _)
   ·obtain ⟨q,hq⟩ : ∃ q : Nat,P = (q : Int) := ⟨P.toNat,by omega⟩
    subst hq
    have hql : q < l.length := by omega
    rw [Int.toNat_natCast,List.getElem?_eq_getElem hql] at hord
    simp [hP0] at hord
    obtain ⟨v',J',ha,hg',hs'⟩ := app_dg (H0 := H) (Z := H) rfl (Nat.le_refl _) (x := .lst [l[q].id.cells] true) (ys := [l[q].id]) hg rfl (by simp; omega)
    simp [e0,e3,e5,e4,hP0,hql,buildSliceA,fillRows,ha,show digest0.length = 32 from rfl]
    exact ⟨h,out ++ [l[q].id],by simp [ho],by simpa using hg',fun h => by simp at h,.inr (hs' (.inl (by simp))),hord⟩
 ·have h' : i = l.length := by omega
  have hres : ordN l l.length [] = out := by rw [hord,h',Nat.sub_self]; rfl
  rw [hres]
  rw [h'] at hlen
  simp [e0,hlen]
  exact hf H.length 2 (Nat.le_refl _)
end Go.Proofs.Ev
namespace Go.Proofs.Ev
open Go.Proofs
variable {C : Cfg}
def atomsQ (p : PatchV) : List AtV := if EncodeE p = 0 then (checkL p).map (atR ⟨IdD p,IdD_len p,IdD_byt p⟩) else []
def atomsQK (p : PatchV) : SK := if EncodeE p = 0 then exK (checkL p) else .exact
theorem ret_atomsQ (S : Setting8 C) (p : PatchV) (hp : p.Fit) : Ret Tryz.prog C 183 [] [.agg p.cells] (.tup [slAV (atomsQK p) ((atomsQ p).map AtV.cells),.int .i64 (EncodeE p)]) := ret_Atoms16 S p hp.ok hp.ok2 hp.atoms hp.atomOver
def atomQ (s : List StoredV) (x : IdV) : AtV := if x.n < 0 ∨ ((atomsQ (getP s x.d)).length : Int) ≤ x.n then zeroAt else (atomsQ (getP s x.d)).getD x.n.toNat zeroAt
def atomB (s : List StoredV) (x : IdV) : Bool := !(decide (x.n < 0) || decide (((atomsQ (getP s x.d)).length : Int) ≤ x.n))
set_option maxHeartbeats 1000000 in
theorem ret_atom17 (S : Setting8 C) (l : List StoredV) (k : SK) (x : IdV) (hl : SetFit l) : Ret Tryz.prog C 119 [] [slAV k (l.map StoredV.cells),.agg x.cells] (.tup [.agg (atomQ l x).cells,.bool (atomB l x)]) := by
 refine ret_pure (S.pure8 _ (by decide)) fun H => func_rule Tryz.func119 rfl (S.prim _ (by decide)) (by simp) (by kernel_rfl) ?_
 unfold Tryz.f119
 have g : ∀ base H K,CallW Tryz.prog C base (.fn 182 []) [slAV k (l.map StoredV.cells),.agg (Ev.dig x.d)] H K = K (.tup [.agg (getP l x.d).cells,.bool (hasS l x.d)]) H := (ret_get17 S l k x.dv (by have := hl.n; omega)).eq
 have a := (ret_atomsQ S _ (getP_fit hl x.d)).eq
 generalize hL : atomsQ (getP l x.d) = L at *
 have hQ : atomQ l x = if x.n < 0 ∨ (L.length : Int) ≤ x.n then zeroAt else L.getD x.n.toNat zeroAt := by unfold atomQ; rw [hL]
 have hB : atomB l x = !(decide (x.n < 0) || decide ((L.length : Int) ≤ x.n)) := by unfold atomB; rw [hL]
 rw [hQ,hB]
 by_cases h1 : x.n < 0
 ·simp [argS,g,a,storeA,guardV,h1,fillA]
  exact freeze_two (freeze_closed (v := .agg _) (AtV.closed _)) (by simp)
 ·by_cases h2 : (L.length : Int) ≤ x.n
  ·simp [argS,g,a,storeA,guardV,h1,h2,fillA]
   exact freeze_two (freeze_closed (v := .agg _) (AtV.closed _)) (by simp)
  ·have hlt : x.n.toNat < L.length := by omega
   have hget : L.getD x.n.toNat zeroAt = L[x.n.toNat] := by rw [List.getD_eq_getElem?_getD,List.getElem?_eq_getElem hlt]; rfl
   rw [if_neg (by omega),hget]
   simp [argS,g,a,storeA,guardV,h1,h2,hlt,show 0 ≤ x.n by omega,show x.n < L.length by omega]
   exact freeze_two (freeze_closed (v := .agg _) (AtV.closed _)) (by simp)
theorem ret_other (S : Setting8 C) (x : IdV) : Ret Tryz.prog C 118 [] [.agg x.cells] (.bool (!zeroD x.d)) := by
 refine ret_pure (S.pure8 _ (by decide)) fun H => func_rule Tryz.func118 rfl (S.prim _ (by decide)) (by simp) (by kernel_rfl) ?_
 unfold Tryz.f118
 have e := ne_of_eq (eq_dig S.toSetting x.d digest0 x.h (by decide))
 simp [argS,e,fillA,zeroD]
theorem ret_directory (S : Setting8 C) (x : AtV) : Ret Tryz.prog C 121 [] [.agg x.cells] (.bool (x.kind == 1 && x.type == 4)) := by
 refine ret_pure (S.pure8 _ (by decide)) fun H => func_rule Tryz.func121 rfl (S.prim _ (by decide)) (by simp) (by kernel_rfl) ?_
 unfold Tryz.f121
 simp +contextual [-Bool.not_and,-Bool.not_or,argS,guardV]
theorem ret_complete (S : Setting8 C) (x : IdV) (d : DigV) : Ret Tryz.prog C 124 [] [.agg x.cells,.agg d.cells] (.agg (wholeV x d).cells) := by
 refine ret_pure (S.pure8 _ (by decide)) fun H => func_rule Tryz.func124 rfl (S.prim _ (by decide)) (by simp) (by kernel_rfl) ?_
 unfold Tryz.f124
 have e := eq_dig S.toSetting x.d digest0 x.h (by decide)
 have hd : (IdV.mk d.d x.n d.h d.b).cells = d.cells ++ [.int .i64 x.n] := rfl
 by_cases hn : 0 ≤ x.n
 ·by_cases hz : x.d = digest0
  ·have hw : wholeV x d = ⟨d.d,x.n,d.h,d.b⟩ := by unfold wholeV; rw [if_pos (by simp [zeroD,hz,hn])]
   rw [hw]
   have e' := e.trans (congrArg (fun b => some (AV.bool b)) (decide_eq_true hz))
   simp [argS,e',hn,guardV,fillA,storeA,hd]
   rw [← hd]
   generalize IdV.mk d.d x.n d.h d.b = y
   first
    | exact freeze_closed (v := .agg y.cells) (IdV.closed y)
    | exact ⟨fun v hv => List.all_eq_true.1 y.leafs v hv,freeze_closed (v := .agg y.cells) (IdV.closed y)⟩
    | (simp; exact ⟨fun v hv => List.all_eq_true.1 y.leafs v hv,freeze_closed (v := .agg y.cells) (IdV.closed y)⟩)
    | trace_state
  ·have hw : wholeV x d = x := by unfold wholeV; rw [if_neg (by simp [zeroD,hz])]
   rw [hw]
   simp [argS,e,hn,hz,guardV,fillA,storeA]
   exact freeze_closed (v := .agg x.cells) (IdV.closed x)
 ·have hw : wholeV x d = x := by unfold wholeV; rw [if_neg (by simp [hn])]
  rw [hw]
  simp [argS,e,hn,guardV,fillA,storeA]
  exact freeze_closed (v := .agg x.cells) (IdV.closed x)
def endE (s : List StoredV) (x file : IdV) (d : DigV) : Int := if zeroD x.d || sameId x file then 0 else if atomB s x = false then 7 else if fitsEndB (wholeV file d) (atomQ s x) = false then 8 else 0
set_option maxHeartbeats 1000000 in
theorem ret_end (S : Setting8 C) (l : List StoredV) (k : SK) (x file : IdV) (d : DigV) (hl : SetFit l) : Ret Tryz.prog C 122 [] [slAV k (l.map StoredV.cells),.agg x.cells,.agg file.cells,.agg d.cells] (.int .i64 (endE l x file d)) := by
 refine ret_pure (S.pure8 _ (by decide)) fun H => func_rule Tryz.func122 rfl (S.prim _ (by decide)) (by simp) (by kernel_rfl) ?_
 unfold Tryz.f122
 have e := eq_idV S.toSetting
 have c1 := (ret_other S x).eq
 have c2 := (ret_atom17 S l k x hl).eq
 have c3 := (ret_complete S file d).eq
 have c4 := fun f a => (ret_fitsEnd S.toSetting f a).eq
 unfold endE
 generalize atomQ l x = Q at *
 generalize atomB l x = B at *
 generalize wholeV file d = W at *
 cases hz : zeroD x.d with
 | true => simp [argS,c1,hz,guardV]
 | false =>
  cases hs : sameId x file with
  | true => simp [argS,c1,hz,guardV,e,hs]
  | false =>
   cases B with
   | false => simp [argS,c1,hz,guardV,e,hs,c2,storeA]
   | true =>
    cases hf : fitsEndB W Q with
    | false => simp [argS,c1,hz,guardV,e,hs,c2,c3,c4,hf,storeA]
    | true => simp [argS,c1,hz,guardV,e,hs,c2,c3,c4,hf,storeA]
def overE (s : List StoredV) (c : ChV) (d : DigV) : List IdV → Int
 | [] => 0
 | x :: l => if zeroD x.d then overE s c d l else if atomB s x = false then 7 else if fitsOverB c.kind (wholeV c.file d) (atomQ s x) = false then 8 else overE s c d l
def chgF (s : List StoredV) (c : ChV) : Int := if zeroD c.file.d then 0 else if atomB s c.file = false then 7 else if fitsFileB c.kind (atomQ s c.file) = false then 8 else 0
def chgP (s : List StoredV) (c : ChV) : Int := if zeroD c.parent.d then 0 else if atomB s c.parent = false then 7 else if ((atomQ s c.parent).kind == 1 && (atomQ s c.parent).type == 4) = false then 8 else 0
def changeE (s : List StoredV) (c : ChV) (d : DigV) : Int := if chgF s c ≠ 0 then chgF s c else if chgP s c ≠ 0 then chgP s c else if endE s c.after c.file d ≠ 0 then endE s c.after c.file d else if endE s c.before c.file d ≠ 0 then endE s c.before c.file d else overE s c d c.over
set_option maxRecDepth 100000 in
set_option maxHeartbeats 4000000 in
theorem ret_change17 (S : Setting8 C) (l : List StoredV) (k : SK) (c : ChV) (d : DigV) (hl : SetFit l) (hc : c.over.length ≤ 400) : Ret Tryz.prog C 71 [] [slAV k (l.map StoredV.cells),.agg c.cells,.agg d.cells] (.int .i64 (changeE l c d)) := by
 refine ret_pure (S.pure8 _ (by decide)) fun H => func_rule Tryz.func71 rfl (S.prim _ (by decide)) (by simp) (by kernel_rfl) ?_
 unfold Tryz.f71
 have c1 := fun x => (ret_other S x).eq
 have c2 := fun x => (ret_atom17 S l k x hl).eq
 have c3 := fun x => (ret_complete S x d).eq
 have c4 := fun kd a => (ret_fitsFile S.toSetting kd a).eq
 have c5 := fun a => (ret_directory S a).eq
 have c6 := fun x => (ret_end S l k x c.file d hl).eq
 have c7 := fun kd f a => (ret_fitsOver S.toSetting kd f a).eq
 refine cut (fun s H' => s 0 = slAV k (l.map StoredV.cells) ∧ s 4 = .ptr H.length 0 139 0 0 ∧ s 5 = .ptr (H.length + 1) 0 32 0 0 ∧ ∃ J,H' = H ++ .rows 139 0 [c.cells] :: .rows 32 0 [d.cells] :: J) ?_ ?_
 ·simp [argS]
 rintro s H' ⟨e0,e4,e5,J,rfl⟩
 refine cut (fun s H' => chgF l c = 0 ∧ s 0 = slAV k (l.map StoredV.cells) ∧ s 4 = .ptr H.length 0 139 0 0 ∧ s 5 = .ptr (H.length + 1) 0 32 0 0 ∧ ∃ J,H' = H ++ .rows 139 0 [c.cells] :: .rows 32 0 [d.cells] :: J) ?_ ?_
 ·cases hz : zeroD c.file.d with
  | true =>
   have hE : chgF l c = 0 := by unfold chgF; rw [if_pos hz]
   simp [e0,e4,e5,c1,hz,hE]
  | false =>
   cases hb : atomB l c.file with
   | false =>
    have hE : chgF l c = 7 := by unfold chgF; simp [hz,hb]
    have hE2 : changeE l c d = 7 := by unfold changeE; simp [hE]
    simp [e0,e4,e5,c1,hz,c2,hb,storeA,hE2]
   | true =>
    cases hf : fitsFileB c.kind (atomQ l c.file) with
    | false =>
     have hE : chgF l c = 8 := by unfold chgF; simp [hz,hb,hf]
     have hE2 : changeE l c d = 8 := by unfold changeE; simp [hE]
     simp [e0,e4,e5,c1,hz,c2,hb,storeA,c4,hf,hE2]
    | true =>
     have hE : chgF l c = 0 := by unfold chgF; simp [hz,hb,hf]
     simp [e0,e4,e5,c1,hz,c2,hb,storeA,c4,hf,hE]
 clear e0 e4 e5
 rintro s H' ⟨h1,e0,e4,e5,J,rfl⟩
 refine cut (fun s H' => chgP l c = 0 ∧ s 0 = slAV k (l.map StoredV.cells) ∧ s 4 = .ptr H.length 0 139 0 0 ∧ s 5 = .ptr (H.length + 1) 0 32 0 0 ∧ ∃ J,H' = H ++ .rows 139 0 [c.cells] :: .rows 32 0 [d.cells] :: J) ?_ ?_
 ·cases hz : zeroD c.parent.d with
  | true =>
   have hE : chgP l c = 0 := by unfold chgP; rw [if_pos hz]
   simp [e0,e4,e5,c1,hz,hE]
  | false =>
   cases hb : atomB l c.parent with
   | false =>
    have hE : chgP l c = 7 := by unfold chgP; simp [hz,hb]
    have hE2 : changeE l c d = 7 := by unfold changeE; simp [hE,h1]
    simp [e0,e4,e5,c1,hz,c2,hb,storeA,hE2]
   | true =>
    cases hf : ((atomQ l c.parent).kind == 1 && (atomQ l c.parent).type == 4) with
    | false =>
     have hE : chgP l c = 8 := by unfold chgP; rw [if_neg (by simp [hz]),if_neg (by simp [hb]),if_pos hf]
     have hE2 : changeE l c d = 8 := by unfold changeE; simp [hE,h1]
     simp [e0,e4,e5,c1,hz,c2,hb,storeA,c5,hf,hE2]
    | true =>
     have hE : chgP l c = 0 := by unfold chgP; rw [if_neg (by simp [hz]),if_neg (by simp [hb]),if_neg (by simp [hf])]
     simp [e0,e4,e5,c1,hz,c2,hb,storeA,c5,hf,hE]
 clear e0 e4 e5
 rintro s H' ⟨h2,e0,e4,e5,J,rfl⟩
 by_cases h3 : endE l c.after c.file d = 0
 ·by_cases h4 : endE l c.before c.file d = 0
  ·have hE : changeE l c d = overE l c d c.over := by unfold changeE; simp [h1,h2,h3,h4]
   rw [hE]
   simp [e0,e4,e5,c6,h3,h4]
   refine loop_count c.over.length (fun i s H' => s 0 = slAV k (l.map StoredV.cells) ∧ s 4 = .ptr H.length 0 139 0 0 ∧ s 5 = .ptr (H.length + 1) 0 32 0 0 ∧ (∃ J,H' = H ++ .rows 139 0 [c.cells] :: .rows 32 0 [d.cells] :: J) ∧ s 13 = .int .i64 i ∧ overE l c d c.over = overE l c d (c.over.drop i)) ?_ ?_
   ·exact ⟨e0,e4,e5,⟨J,rfl⟩,rfl,rfl⟩
   clear e0 e4 e5
   rintro i s H' ⟨e0,e4,e5,⟨J,rfl⟩,e13,hv⟩ hi
   by_cases h : i < c.over.length
   ·rw [List.drop_eq_getElem_cons h,overE] at hv
    cases hz : zeroD c.over[i].d with
    | true =>
     rw [if_pos hz] at hv
     simp [e0,e4,e5,e13,h,c1,hz,wrap_succ h (by omega)]
     exact hv
    | false =>
     rw [if_neg (by simp [hz])] at hv
     cases hb : atomB l c.over[i] with
     | false =>
      rw [if_pos hb] at hv
      simp [e0,e4,e5,e13,h,c1,hz,c2,hb,storeA,hv]
     | true =>
      rw [if_neg (by simp [hb])] at hv
      cases hf : fitsOverB c.kind (wholeV c.file d) (atomQ l c.over[i]) with
      | false =>
       rw [if_pos hf] at hv
       simp [e0,e4,e5,e13,h,c1,hz,c2,hb,storeA,c3,c7,hf,hv]
      | true =>
       rw [if_neg (by simp [hf])] at hv
       simp [e0,e4,e5,e13,h,c1,hz,c2,hb,storeA,c3,c7,hf,wrap_succ h (by omega)]
       exact hv
   ·have h' : i = c.over.length := by omega
    subst h'
    rw [List.drop_length,overE] at hv
    simp [e0,e4,e5,e13,hv]
  ·have hE : changeE l c d = endE l c.before c.file d := by unfold changeE; simp [h1,h2,h3,h4]
   rw [hE]
   simp [e0,e4,e5,c6,h3,h4]
 ·have hE : changeE l c d = endE l c.after c.file d := by unfold changeE; simp [h1,h2,h3]
  rw [hE]
  simp [e0,e4,e5,c6,h3]
def refsE (s : List StoredV) (d : DigV) : List ChV → Int
 | [] => 0
 | c :: l => if changeE s c d ≠ 0 then changeE s c d else refsE s d l
theorem ret_refs17 (S : Setting8 C) (l : List StoredV) (k : SK) (p : PatchV) (d : DigV) (hl : SetFit l) (hp : p.Fit) : Ret Tryz.prog C 39 [] [slAV k (l.map StoredV.cells),.agg p.cells,.agg d.cells] (.int .i64 (refsE l d p.changes)) := by
 refine ret_pure (S.pure8 _ (by decide)) fun H => func_rule Tryz.func39 rfl (S.prim _ (by decide)) (by simp) (by kernel_rfl) ?_
 unfold Tryz.f39
 have hcn := hp.changes
 simp [argS]
 refine loop_count p.changes.length (fun i s H' => s 0 = slAV k (l.map StoredV.cells) ∧ s 4 = .ptr H.length 0 5 0 0 ∧ s 5 = .ptr (H.length + 1) 0 32 0 0 ∧ H' = H ++ [.rows 5 0 [p.cells],.rows 32 0 [d.cells]] ∧ s 7 = .int .i64 i ∧ refsE l d p.changes = refsE l d (p.changes.drop i)) ?_ ?_
 ·exact ⟨rfl,rfl,rfl,rfl,rfl,rfl⟩
 rintro i s H' ⟨e0,e4,e5,rfl,e7,hv⟩ hi
 by_cases h : i < p.changes.length
 ·rw [List.drop_eq_getElem_cons h,refsE] at hv
  have c1 := (ret_change17 S l k p.changes[i] d hl (hp.over _ (List.getElem_mem h))).eq
  by_cases h0 : changeE l p.changes[i] d = 0
  ·rw [if_neg (by simpa using h0)] at hv
   simp [e0,e4,e5,e7,h,c1,h0,wrap_succ h (by omega)]
   exact hv
  ·rw [if_pos h0] at hv
   simp [e0,e4,e5,e7,h,c1,h0,hv]
 ·have h' : i = p.changes.length := by omega
  subst h'
  rw [List.drop_length,refsE] at hv
  simp [e0,e4,e5,e7,hv]
def chk1 (p : Option DigV) : List StoredV → Int
 | [] => 0
 | x :: l => if EncodeE x.patch ≠ 0 then EncodeE x.patch else if IdD x.patch ≠ x.id.d then 13 else if (match p with | none => false | some y => decide (0 ≤ cmpD y.d (IdD x.patch))) = true then 9 else chk1 (some x.id) l
theorem chk1_cons (p : Option DigV) (x : StoredV) (l : List StoredV) : chk1 p (x :: l) = if EncodeE x.patch ≠ 0 then EncodeE x.patch else if IdD x.patch ≠ x.id.d then 13 else if (match p with | none => false | some y => decide (0 ≤ cmpD y.d (IdD x.patch))) = true then 9 else chk1 (some x.id) l := by cases p <;> rfl
def chk2 (ids : List DigV) : List StoredV → Int
 | [] => 0
 | x :: l => if allD ids (needsR x.patch).2 = false then 19 else chk2 ids l
def chk4 (s : List StoredV) : List StoredV → Int
 | [] => 0
 | x :: l => if refsE s x.id x.patch.changes ≠ 0 then refsE s x.id x.patch.changes else chk4 s l
def chkE (s : List StoredV) : Int := if chk1 none s ≠ 0 then chk1 none s else if chk2 (s.map fun x => x.id) s ≠ 0 then chk2 (s.map fun x => x.id) s else if (ordN s s.length []).length < s.length then 20 else chk4 s s
def prevS (l : List StoredV) : Nat → Option DigV
 | 0 => none
 | k + 1 => (l[k]?).map fun x => x.id
set_option maxRecDepth 100000 in
set_option maxHeartbeats 4000000 in
theorem ret_Check17 (S : Setting8 C) (l : List StoredV) (k : SK) (hl : SetFit l) : Ret Tryz.prog C 14 [] [slAV k (l.map StoredV.cells)] (.int .i64 (chkE l)) := by
 refine ret_pure (S.pure8 _ (by decide)) fun H => func_rule Tryz.func14 rfl (S.prim _ (by decide)) (by simp) (by kernel_rfl) ?_
 unfold Tryz.f14
 have hn := hl.n
 have cmp : ∀ a b : DigV,∀ base H K,CallW Tryz.prog C base (.fn 34 []) [.agg a.cells,.agg b.cells] H K = K (.int .i64 (cmpD a.d b.d)) H := fun a b => (ret_cmpD (S.prim _ (by decide)) (S.pure _ (by decide)) a.d b.d a.h b.h).eq
 have eqd := fun a b => ne_of_eq (eq_digV S.toSetting a b)
 have cids := (ret_ids S l k (by omega)).eq
 have cord := (ret_order17 S l k hl).eq
 simp [argS,show ¬ (400 : Int) < l.length by omega]
 refine loop_count l.length (fun i s H' => s 0 = slAV k (l.map StoredV.cells) ∧ (∃ J,H' = H ++ J) ∧ s 3 = .int .i64 i ∧ chk1 none l = chk1 (prevS l i) (l.drop i)) ?_ ?_
 ·exact ⟨rfl,⟨[],by simp⟩,rfl,rfl⟩
 rintro i s H' ⟨e0,⟨J,rfl⟩,e3,hv⟩ hi
 by_cases h : i < l.length
 ·have hpf := hl.p _ (List.getElem_mem h)
  have cid : ∀ base H K,CallW Tryz.prog C base (.fn 33 []) [.agg l[i].patch.cells] H K = K (.tup [.agg (DigV.mk (IdD l[i].patch) (IdD_len _) (IdD_byt _)).cells,.int .i64 (EncodeE l[i].patch)]) H := (ret_Id16 S.toSetting6 l[i].patch hpf.ok hpf.ok2).eq
  rw [List.drop_eq_getElem_cons h,chk1_cons] at hv
  obtain ⟨D,hD⟩ : ∃ D,D = DigV.mk (IdD l[i].patch) (IdD_len _) (IdD_byt _) := ⟨_,rfl⟩
  have hDd : IdD l[i].patch = D.d := by rw [hD]
  rw [← hD] at cid
  rw [hDd] at hv
  clear hD
  by_cases hE : EncodeE l[i].patch = 0
  ·rw [if_neg (by simpa using hE)] at hv
   by_cases hd : D.d = l[i].id.d
   ·rw [if_neg (by simpa using hd)] at hv
    cases i with
    | zero =>
     simp only [prevS] at hv
     simp [e0,e3,h,cid,hE,storeA,eqd,hd,guardV,show digest0.length = 32 from rfl,List.drop_of_length_le]
     refine ⟨rfl,?_⟩
     simp only [Bool.false_eq_true,if_false] at hv
     rw [hv]; simp [prevS,List.getElem?_eq_getElem h]
    | succ i =>
     have hi1 : i < l.length := by omega
     have hpv : prevS l (i + 1) = some l[i].id := by simp [prevS,List.getElem?_eq_getElem hi1]
     have hpv2 : prevS l (i + 1 + 1) = some l[i + 1].id := by simp [prevS,List.getElem?_eq_getElem h]
     rw [hpv] at hv
     simp only [decide_eq_true_eq] at hv
     have w1 : IntKind.i64.wrap (i : Int) = i := wrap_nat (by omega)
     have w2 : IntKind.i64.wrap ((i : Int) + 1 + 1) = (i : Int) + 1 + 1 := wrap_in (by omega) (by omega)
     have t1 : ((i : Int) + 1).toNat = i + 1 := by omega
     have k1 : (0 : Int) ≤ (i : Int) + 1 ∧ (i : Int) + 1 < l.length ∧ (0 : Int) < (i : Int) + 1 := by omega
     by_cases hc : 0 ≤ cmpD l[i].id.d D.d
     ·rw [if_pos hc] at hv
      have hres : chkE l = 9 := by unfold chkE; rw [hv]; rfl
      have hc' := hc
      rw [hd] at hc'
      simp [e0,e3,h,hi1,cid,hE,storeA,eqd,hd,guardV,show digest0.length = 32 from rfl,List.drop_of_length_le,w1,t1,k1,cmp,hc',hres]
     ·rw [if_neg hc] at hv
      have hc' := hc
      rw [hd] at hc'
      simp [e0,e3,h,hi1,cid,hE,storeA,eqd,hd,guardV,show digest0.length = 32 from rfl,List.drop_of_length_le,w1,w2,t1,k1,cmp,hc']
      rw [hv,hpv2]
   ·rw [if_pos hd] at hv
    have hres : chkE l = 13 := by unfold chkE; rw [hv]; rfl
    simp [e0,e3,h,cid,hE,storeA,eqd,hd,guardV,show digest0.length = 32 from rfl,List.drop_of_length_le,hres]
  ·rw [if_pos hE] at hv
   have hres : chkE l = EncodeE l[i].patch := by unfold chkE; rw [hv,if_pos hE]
   simp [e0,e3,h,cid,hE,storeA,show digest0.length = 32 from rfl,hres]
 have h' : i = l.length := by omega
 subst h'
 rw [List.drop_length] at hv
 have h1 : chk1 none l = 0 := by rw [hv]; unfold chk1; cases prevS l l.length <;> rfl
 clear hv
 simp [e0,e3,cids]
 refine loop_count l.length (fun i s H' => s 0 = slAV k (l.map StoredV.cells) ∧ (∃ J,H' = H ++ J) ∧ s 6 = slAV (exK l) ((l.map fun x => x.id).map DigV.cells) ∧ s 7 = .int .i64 i ∧ chk2 (l.map fun x => x.id) l = chk2 (l.map fun x => x.id) (l.drop i)) ?_ ?_
 ·exact ⟨e0,⟨J,rfl⟩,by simp,rfl,rfl⟩
 clear e0 e3
 rintro i s H' ⟨e0,⟨J,rfl⟩,e6,e7,hv⟩ hi
 by_cases h : i < l.length
 ·have hpf := hl.p _ (List.getElem_mem h)
  rw [List.drop_eq_getElem_cons h,chk2] at hv
  have cN := (ret_needs S.toSetting7 l[i].patch hpf.ok hpf.ok2 hpf.deps hpf.changes hpf.over).eq
  have cA := ((ret_all S.toSetting7 (l.map fun x => x.id) (needsR l[i].patch).2 (exK l) (needsR l[i].patch).1 (by simp; omega) (needs_len hpf)).ret (by simp only [AV.closeds,AV.closed,slAV_closed (closedss_map DigV.closed _),Bool.and_self])).eq
  cases ha : allD (l.map fun x => x.id) (needsR l[i].patch).2 with
  | false =>
   rw [if_pos ha] at hv
   have hres : chkE l = 19 := by unfold chkE; rw [if_neg (by simpa using h1),hv]; rfl
   simp [e0,e7,h,cN,hres]
   rw [e6,cA,ha]
   simp [hres]
  | true =>
   rw [if_neg (by simp [ha])] at hv
   simp [e0,e7,h,cN]
   rw [e6,cA,ha]
   simp [e0,e6,e7,wrap_succ h (by omega)]
   exact ⟨h,hv⟩
 have h' : i = l.length := by omega
 subst h'
 rw [List.drop_length,chk2] at hv
 have h2 := hv
 clear hv
 have hE1 : chkE l = if (ordN l l.length []).length < l.length then 20 else chk4 l l := by unfold chkE; rw [if_neg (by simpa using h1),if_neg (by simpa using h2)]
 by_cases h3 : (ordN l l.length []).length < l.length
 ·rw [if_pos h3] at hE1
  simp [e0,e7,cord,h3,hE1]
 rw [if_neg h3] at hE1
 simp [e0,e7,cord,h3]
 refine loop_count l.length (fun i s H' => s 0 = slAV k (l.map StoredV.cells) ∧ (∃ J,H' = H ++ J) ∧ s 8 = .int .i64 i ∧ chk4 l l = chk4 l (l.drop i)) ?_ ?_
 ·exact ⟨e0,⟨J,rfl⟩,rfl,rfl⟩
 clear e0 e6 e7
 rintro i s H' ⟨e0,⟨J,rfl⟩,e8,hv⟩ hi
 by_cases h : i < l.length
 ·have hpf := hl.p _ (List.getElem_mem h)
  rw [List.drop_eq_getElem_cons h,chk4] at hv
  have cR := (ret_refs17 S l k l[i].patch l[i].id hl hpf).eq
  by_cases h0 : refsE l l[i].id l[i].patch.changes = 0
  ·rw [if_neg (by simpa using h0)] at hv
   simp [e0,e8,h,cR,h0,wrap_succ h (by omega)]
   exact hv
  ·rw [if_pos h0] at hv
   simp [e0,e8,h,cR,h0,hE1,hv]
 ·have h' : i = l.length := by omega
  subst h'
  rw [List.drop_length,chk4] at hv
  simp [e0,e8,hE1,hv]
def fineB (s : List StoredV) : Bool := !heavyB s && (chkE s == 0)
theorem ret_fine (S : Setting8 C) (l : List StoredV) (k : SK) (hl : SetSz l) : Ret Tryz.prog C 5 [] [slAV k (l.map StoredV.cells)] (.bool (fineB l)) := by
 refine ret_pure (S.pure8 _ (by decide)) fun H => func_rule Tryz.func5 rfl (S.prim _ (by decide)) (by simp) (by kernel_rfl) ?_
 unfold Tryz.f5
 have c1 := (ret_great17 S l k hl).eq
 cases hh : heavyB l with
 | true => simp [argS,c1,hh,guardV,fineB]
 | false =>
  have c2 := (ret_Check17 S l k (setFit_of hl hh)).eq
  simp [argS,c1,hh,guardV,fineB,c2]
end Go.Proofs.Ev
namespace Go.Proofs.Ev
open Go.Proofs
variable {C : Cfg}
structure SettingA (C : Cfg) : Prop extends Setting8 C where
 pureA : ∀ f,f ∈ [189,125,190,273,188,127,73,76] → C.pure f = true
 plainA : ∀ f,f ∈ [126] → C.pure f = false ∧ C.frz f = false
theorem and31 : ∀ n : Nat,n < 32 → 0 < n → IntKind.u64.wrap (BitVec.ofInt 64 (IntKind.u64.wrap (IntKind.i64.wrap (-(n : Int)))) &&& BitVec.ofInt 64 31).toNat = ((32 - n : Nat) : Int) := by decide
theorem ret_rotl (S : SettingA C) (x : W32) (n : Nat) (h : n < 32) (h0 : 0 < n) : Ret Tryz.prog C 273 [] [w32 x,.int .i64 (IntKind.i64.wrap (-(n : Int)))] (w32 (rotr x n)) := by
 refine ret_pure (S.pureA _ (by decide)) fun H => func_rule Tryz.func273 rfl (S.prim _ (by decide)) (by simp) (by kernel_rfl) ?_
 unfold Tryz.f273
 have ha : ∀ t,binA Tryz.prog C .and t (.int .u64 (IntKind.u64.wrap (IntKind.i64.wrap (-(n : Int))))) (.int .u64 31) = some (.int .u64 ((32 - n : Nat) : Int)) := fun t => by
  show some (AV.int .u64 (IntKind.u64.wrap (BitVec.ofInt 64 (IntKind.u64.wrap (IntKind.i64.wrap (-(n : Int)))) &&& BitVec.ofInt 64 31).toNat)) = _
  rw [and31 n h h0]
 obtain ⟨m,hm⟩ : ∃ m,m = 32 - n := ⟨_,rfl⟩
 rw [← hm] at ha
 have e1 := fun t => w_shl (P := Tryz.prog) (C := C) t x .u64 m (by omega)
 have e2 := fun t => w_shr (P := Tryz.prog) (C := C) t x .u64 n (by omega)
 have w1 : IntKind.u64.wrap (32 - (m : Int)) = (n : Int) := by rw [IntWalk.u64_in _ (by omega)]; omega
 have hr : rotr x n = x <<< m ||| x >>> n := by rw [rotr,← hm,BitVec.or_comm]
 have cv : ∀ H y,convertA Tryz.prog H 3 217 (.int .i64 y) = some (.int .u64 (IntKind.u64.wrap y),H) := fun H y => by simp [convertA]
 generalize IntKind.i64.wrap (-(n : Int)) = y at *
 rw [hr]
 simp [argS,cv,ha,e1,e2,w1,w_or]
theorem ret_right (S : SettingA C) (x : W32) (n : Nat) (h : n < 32) (h0 : 0 < n) : Ret Tryz.prog C 190 [] [w32 x,.int .i64 (n : Int)] (w32 (rotr x n)) := by
 refine ret_pure (S.pureA _ (by decide)) fun H => func_rule Tryz.func190 rfl (S.prim _ (by decide)) (by simp) (by kernel_rfl) ?_
 unfold Tryz.f190
 have e := (ret_rotl S x n h h0).eq
 simp [argS,e]
theorem ret_constantsP (S : SettingA C) : Ret Tryz.prog C 189 [] [] (.agg (shaK.map w32)) := by
 refine ret_pure (S.pureA _ (by decide)) fun H => func_rule Tryz.func189 rfl (S.prim _ (by decide)) (by simp) (by kernel_rfl) ?_
 unfold Tryz.f189
 simp [argS,storeA,fillA]
 rw [freeze_closed (by simp [AV.closed,AV.closeds])]
 rfl
theorem ret_initial (S : SettingA C) : Ret Tryz.prog C 125 [] [] (.agg (stW initS)) := by
 refine ret_pure (S.pureA _ (by decide)) fun H => func_rule Tryz.func125 rfl (S.prim _ (by decide)) (by simp) (by kernel_rfl) ?_
 unfold Tryz.f125
 simp [argS,storeA,fillA]
 rw [freeze_closed (by simp [AV.closed,AV.closeds])]
 rfl
def wacc (block : List UInt8) (t : Nat) : Nat → W32
 | 0 => 0
 | j + 1 => wacc block t j <<< 8 ||| byteW (block.getD (4 * t + j) 0)
theorem wacc4 (block : List UInt8) (t : Nat) : wacc block t 4 = wordAt block t := by
 simp only [wacc,wordAt]
 generalize byteW (block.getD (4 * t) 0) = a
 simp only [Nat.add_zero,BitVec.shiftLeft_or_distrib,← BitVec.shiftLeft_add]
 simp
def wcA (block : List UInt8) (T j : Nat) : List AV := (schC block T).take T ++ w32 (wacc block T j) :: (schC block T).drop (T + 1)
theorem wcA_len {block : List UInt8} {T j : Nat} (h : T < 64) : (wcA block T j).length = 64 := by
 have := schC_len (block := block) (t := T) (by omega)
 simp [wcA]; omega
theorem wcA_at {block : List UInt8} {T j : Nat} (h : T < 64) : (wcA block T j)[T]? = some (w32 (wacc block T j)) := by
 have := schC_len (block := block) (t := T) (by omega)
 have hl : ((schC block T).take T).length = T := by simp; omega
 rw [wcA,List.getElem?_append_right (by omega),hl,Nat.sub_self]; rfl
theorem wcA_set {block : List UInt8} {T j : Nat} (h : T < 64) : (wcA block T j).take T ++ w32 (wacc block T j <<< 8 ||| byteW (block.getD (4 * T + j) 0)) :: (wcA block T j).drop (T + 1) = wcA block T (j + 1) := by
 have := schC_len (block := block) (t := T) (by omega)
 have hl : ((schC block T).take T).length = T := by simp; omega
 have e1 : (wcA block T j).take T = (schC block T).take T := by rw [wcA,List.take_append_of_le_length (by omega),List.take_of_length_le (by omega)]
 have e2 : (wcA block T j).drop (T + 1) = (schC block T).drop (T + 1) := by rw [wcA,List.drop_append,List.drop_of_length_le (by omega),hl]; simp [show T + 1 - T = 1 by omega]
 rw [e1,e2]; rfl
theorem wcA_zero {block : List UInt8} {T : Nat} (h : T < 64) : wcA block T 0 = schC block T := by
 have hl := schC_len (block := block) (t := T) (by omega)
 have hat : (schC block T)[T]? = some (w32 0) := by
  rw [schC,List.getElem?_append_right (by rw [List.length_map,schedL_len]; omega),List.length_map,schedL_len,Nat.sub_self,show 64 - T = (64 - T - 1) + 1 by omega,List.replicate_succ]; rfl
 have h1 : T < (schC block T).length := by omega
 have h2 : (schC block T)[T] = w32 0 := by rw [List.getElem?_eq_getElem h1] at hat; exact Option.some.inj hat
 rw [wcA]
 show (schC block T).take T ++ w32 0 :: (schC block T).drop (T + 1) = _
 rw [← h2,← List.drop_eq_getElem_cons h1,List.take_append_drop]
theorem wcA_four {block : List UInt8} {T : Nat} (h : T < 16) : wcA block T 4 = schC block (T + 1) := by
 rw [wcA,wacc4]; exact schC_set (by omega) (by rw [if_pos h])
set_option maxRecDepth 100000 in
set_option maxHeartbeats 4000000 in
theorem ret_scheduleP (S : SettingA C) (block : List UInt8) (hb : block.length = 64) : Ret Tryz.prog C 188 [] [.str block] (.agg ((schedL block 64).map w32)) := by
 refine ret_pure (S.pureA _ (by decide)) fun H => func_rule Tryz.func188 rfl (S.prim _ (by decide)) (by simp) (by kernel_rfl) ?_
 unfold Tryz.f188
 have sh8 : ∀ t x,binA Tryz.prog C .shl t (w32 x) (.int .u64 8) = some (w32 (x <<< 8)) := fun t x => w_shl t x .u64 8 (by decide)
 have sr10 : ∀ t x,binA Tryz.prog C .shr t (w32 x) (.int .u64 10) = some (w32 (x >>> 10)) := fun t x => w_shr t x .u64 10 (by decide)
 have sr3 : ∀ t x,binA Tryz.prog C .shr t (w32 x) (.int .u64 3) = some (w32 (x >>> 3)) := fun t x => w_shr t x .u64 3 (by decide)
 have r17 : ∀ x base H K,CallW Tryz.prog C base (.fn 190 []) [w32 x,.int .i64 17] H K = K (w32 (rotr x 17)) H := fun x => (ret_right S x 17 (by decide) (by decide)).eq
 have r19 : ∀ x base H K,CallW Tryz.prog C base (.fn 190 []) [w32 x,.int .i64 19] H K = K (w32 (rotr x 19)) H := fun x => (ret_right S x 19 (by decide) (by decide)).eq
 have r7 : ∀ x base H K,CallW Tryz.prog C base (.fn 190 []) [w32 x,.int .i64 7] H K = K (w32 (rotr x 7)) H := fun x => (ret_right S x 7 (by decide) (by decide)).eq
 have r18 : ∀ x base H K,CallW Tryz.prog C base (.fn 190 []) [w32 x,.int .i64 18] H K = K (w32 (rotr x 18)) H := fun x => (ret_right S x 18 (by decide) (by decide)).eq
 simp [argS]
 refine loop_count 64 (fun T s H' => ∃ (Z : List AV) (J : Heap),Z.length = 64 ∧ s 0 = .str block ∧ s 2 = .ptr H.length 0 64 0 0 ∧ s 3 = .ptr (H.length + 1) 0 64 0 0 ∧ s 9 = .int .i64 T ∧ H' = H ++ .rows 64 0 [Z] :: .rows 64 0 [schC block T] :: J) ?_ ?_
 ·exact ⟨List.replicate 64 (.int .u32 0),[],rfl,rfl,rfl,rfl,rfl,rfl⟩
 rintro T s H' ⟨Z,J,hZ,e0,e2,e3,e9,rfl⟩ hT
 have hl := schC_len (block := block) (t := T) (by omega)
 by_cases h : T < 64
 ·have kT : (T : Int) < 64 ∧ T < 64 ∧ T + 1 ≤ 64 := by omega
  by_cases h16 : T < 16
  ·have k16 : (T : Int) < 16 := by omega
   obtain ⟨q,hq⟩ : ∃ q,q = 4 * T := ⟨_,rfl⟩
   have w0 : IntKind.i64.wrap (4 * (T : Int)) = (q : Int) := by rw [wrap_in (by omega) (by omega)]; omega
   have w4 : IntKind.i64.wrap ((q : Int) + 4) = ((q + 4 : Nat) : Int) := by rw [wrap_in (by omega) (by omega)]; omega
   obtain ⟨q4,hq4⟩ : ∃ q4,q4 = q + 4 := ⟨_,rfl⟩
   rw [← hq4] at w4
   obtain ⟨B,hB⟩ : ∃ B,B = (block.take q4).drop q := ⟨_,rfl⟩
   have hBl : B.length = 4 := by rw [hB]; simp; omega
   have hBat : ∀ j,j < 4 → B[j]? = some (block.getD (q + j) 0) := by
    intro j hj
    rw [hB,List.getElem?_drop,List.getElem?_take,if_pos (by omega),List.getD_eq_getElem?_getD,List.getElem?_eq_getElem (show q + j < block.length by omega)]; rfl
   simp [e0,e2,e3,e9,kT,k16,w0,w4,sliceA,boundsA,hb,show (q4 : Int) < 65 by omega,show (q : Int) < (q4 : Int) + 1 by omega,← hB,convertA,hBl]
   refine loop_count 4 (fun j s H' => s 0 = .str block ∧ s 2 = .ptr H.length 0 64 0 0 ∧ s 3 = .ptr (H.length + 1) 0 64 0 0 ∧ s 9 = .int .i64 T ∧ s 4 = .int .i64 T ∧ s 21 = .sl (H.length + (J.length + 1 + 1)) 0 1 0 4 ∧ s 22 = .int .i64 4 ∧ s 23 = .int .i64 j ∧ H' = H ++ .rows 64 0 [Z] :: .rows 64 0 [wcA block T j] :: (J ++ [.rows 1 0 (B.map fun b => [.int .u8 b.toNat])])) ?_ ?_
   ·exact ⟨e0,e2,e3,e9,rfl,by simp,rfl,rfl,by rw [wcA_zero kT.2.1]⟩
   clear e0 e2 e3 e9
   rintro j s H' ⟨e0,e2,e3,e9,e4,e21,e22,e23,rfl⟩ hj
   have hwl := wcA_len (block := block) (T := T) (j := j) kT.2.1
   by_cases hj4 : j < 4
   ·have hat := wcA_at (block := block) (T := T) (j := j) kT.2.1
    have hset := wcA_set (block := block) (T := T) (j := j) kT.2.1
    have hBj := hBat j hj4
    rw [← hq] at hset
    generalize block.getD (q + j) 0 = b at hBj hset
    generalize hwa : wacc block T j = a at hat hset
    generalize hwc : wcA block T j = Wc at *
    simp [-getElem?_pos,List.getElem?_cons_zero,e0,e2,e3,e9,e4,e21,e22,e23,show (j : Int) < 4 by omega,hj4,hBj,kT,hat,sh8,convertA,conv_byte,w_or,storeA,hwl,hset,wrap_succ hj4 (by decide)]
   ·have hj' : j = 4 := by omega
    subst hj'
    rw [wcA_four h16]
    simp [e0,e2,e3,e9,e4,e21,e22,e23,hZ,wrap_succ kT.2.1 (by decide),h]
  ·have k16 : ¬ (T : Int) < 16 := by omega
   obtain ⟨j15,hj15⟩ : ∃ j,j = T - 15 := ⟨_,rfl⟩
   obtain ⟨j2,hj2⟩ : ∃ j,j = T - 2 := ⟨_,rfl⟩
   obtain ⟨j7,hj7⟩ : ∃ j,j = T - 7 := ⟨_,rfl⟩
   obtain ⟨j16,hj16⟩ : ∃ j,j = T - 16 := ⟨_,rfl⟩
   have w15 : IntKind.i64.wrap ((T : Int) - 15) = (j15 : Int) := by rw [wrap_in (by omega) (by omega)]; omega
   have w2 : IntKind.i64.wrap ((T : Int) - 2) = (j2 : Int) := by rw [wrap_in (by omega) (by omega)]; omega
   have w7 : IntKind.i64.wrap ((T : Int) - 7) = (j7 : Int) := by rw [wrap_in (by omega) (by omega)]; omega
   have w16 : IntKind.i64.wrap ((T : Int) - 16) = (j16 : Int) := by rw [wrap_in (by omega) (by omega)]; omega
   have a15 := schC_at (block := block) (t := T) (j := j15) (by omega)
   have a2 := schC_at (block := block) (t := T) (j := j2) (by omega)
   have a7 := schC_at (block := block) (t := T) (j := j7) (by omega)
   have a16 := schC_at (block := block) (t := T) (j := j16) (by omega)
   have hset := schC_set (block := block) (t := T) (x := nextW (schedL block T)) (by omega) (by rw [if_neg (by omega)])
   have hn : nextW (schedL block T) = ((rotr ((schedL block T).getD j2 0) 17 ^^^ rotr ((schedL block T).getD j2 0) 19 ^^^ (schedL block T).getD j2 0 >>> 10) + (schedL block T).getD j7 0 + (rotr ((schedL block T).getD j15 0) 7 ^^^ rotr ((schedL block T).getD j15 0) 18 ^^^ (schedL block T).getD j15 0 >>> 3)) + (schedL block T).getD j16 0 := by
    unfold nextW
    simp only [schedL_len]
    rw [← hj15,← hj2,← hj7,← hj16]
   rw [hn] at hset
   generalize (schedL block T).getD j2 0 = b0 at a2 hset
   generalize (schedL block T).getD j7 0 = b1 at a7 hset
   generalize (schedL block T).getD j15 0 = b2 at a15 hset
   generalize (schedL block T).getD j16 0 = b3 at a16 hset
   have k15 : (j15 : Int) < 64 ∧ j15 < 64 := by omega
   have k2 : (j2 : Int) < 64 ∧ j2 < 64 := by omega
   have k7 : (j7 : Int) < 64 ∧ j7 < 64 := by omega
   have kk16 : (j16 : Int) < 64 ∧ j16 < 64 := by omega
   simp [-getElem?_pos,List.getElem?_cons_zero,e0,e2,e3,e9,k16,w15,w2,w7,w16,a15,a2,a7,a16,k15,k2,k7,kk16,kT,r17,r19,r7,r18,sr10,sr3,w_add,w_xor,storeA,hl]
   rw [kOpsU_turn (h := by kernel_rfl)]
   simp [h,e0,e2,e3,e9,wrap_succ kT.2.1 (by decide),hl,kT]
   exact ⟨Z,hZ,rfl,hset⟩
 ·have h : T = 64 := by omega
  subst h
  have e64 : schC block 64 = (schedL block 64).map w32 := by simp [schC]
  have l64 := schedL_len block 64
  rw [e64] at hl ⊢
  generalize schedL block 64 = W at *
  simp [e0,e2,e3,e9,storeA,hZ,List.take_of_length_le,List.drop_of_length_le (Nat.le_of_eq hZ),l64]
  exact freeze_closed (v := .agg (W.map w32)) (closeds_w W)
set_option maxRecDepth 100000 in
set_option maxHeartbeats 4000000 in
theorem ret_compress (S : SettingA C) (v0 : St8) (block : List UInt8) (hb : block.length = 64) : Ret Tryz.prog C 127 [] [.agg (stW v0),.str block] (.agg (stW (stepS v0 block))) := by
 refine ret_pure (S.pureA _ (by decide)) fun H => func_rule Tryz.func127 rfl (S.prim _ (by decide)) (by simp) (by kernel_rfl) ?_
 unfold Tryz.f127
 have r6 : ∀ x base H K,CallW Tryz.prog C base (.fn 190 []) [w32 x,.int .i64 6] H K = K (w32 (rotr x 6)) H := fun x => (ret_right S x 6 (by decide) (by decide)).eq
 have r11 : ∀ x base H K,CallW Tryz.prog C base (.fn 190 []) [w32 x,.int .i64 11] H K = K (w32 (rotr x 11)) H := fun x => (ret_right S x 11 (by decide) (by decide)).eq
 have r25 : ∀ x base H K,CallW Tryz.prog C base (.fn 190 []) [w32 x,.int .i64 25] H K = K (w32 (rotr x 25)) H := fun x => (ret_right S x 25 (by decide) (by decide)).eq
 have r2 : ∀ x base H K,CallW Tryz.prog C base (.fn 190 []) [w32 x,.int .i64 2] H K = K (w32 (rotr x 2)) H := fun x => (ret_right S x 2 (by decide) (by decide)).eq
 have r13 : ∀ x base H K,CallW Tryz.prog C base (.fn 190 []) [w32 x,.int .i64 13] H K = K (w32 (rotr x 13)) H := fun x => (ret_right S x 13 (by decide) (by decide)).eq
 have r22 : ∀ x base H K,CallW Tryz.prog C base (.fn 190 []) [w32 x,.int .i64 22] H K = K (w32 (rotr x 22)) H := fun x => (ret_right S x 22 (by decide) (by decide)).eq
 have c1 := (ret_scheduleP S block hb).eq
 have c2 := (ret_constantsP S).eq
 have l1 : ((schedL block 64).map w32).length = 64 := by rw [List.length_map,schedL_len]
 have l2 : (shaK.map w32).length = 64 := rfl
 obtain ⟨fW,hfW⟩ : ∃ f : Nat → W32,f = fun t => (schedL block 64).getD t 0 := ⟨_,rfl⟩
 obtain ⟨fK,hfK⟩ : ∃ f : Nat → W32,f = fun t => shaK.getD t 0 := ⟨_,rfl⟩
 have hround : ∀ t,rounds8 block v0 (t + 1) = round8 (rounds8 block v0 t) (fK t) (fW t) := fun t => by rw [hfK,hfW]; rfl
 have hs : ∀ t,t < 64 → ((schedL block 64).map w32)[t]? = some (w32 (fW t)) := fun t ht => by
  rw [hfW,List.getElem?_map]; simp only; rw [List.getD_eq_getElem?_getD,List.getElem?_eq_getElem (by rw [schedL_len]; exact ht)]; rfl
 have hk : ∀ t,t < 64 → (shaK.map w32)[t]? = some (w32 (fK t)) := fun t ht => by
  rw [hfK,List.getElem?_map]; simp only; rw [List.getD_eq_getElem?_getD,List.getElem?_eq_getElem (show t < shaK.length from ht)]; rfl
 have hfin : stepS v0 block = ⟨v0.a + (rounds8 block v0 64).a,v0.b + (rounds8 block v0 64).b,v0.c + (rounds8 block v0 64).c,v0.d + (rounds8 block v0 64).d,v0.e + (rounds8 block v0 64).e,v0.f + (rounds8 block v0 64).f,v0.g + (rounds8 block v0 64).g,v0.h + (rounds8 block v0 64).h⟩ := rfl
 rw [hfin]
 have h0 : rounds8 block v0 0 = v0 := rfl
 have q1 : ∀ x ∈ (schedL block 64).map w32,x.leaf = true := by intro x hx; obtain ⟨y,_,rfl⟩ := List.mem_map.1 hx; rfl
 have q2 : ∀ x ∈ shaK.map w32,x.leaf = true := by intro x hx; obtain ⟨y,_,rfl⟩ := List.mem_map.1 hx; rfl
 clear hfW hfK
 generalize rounds8 block v0 = R at *
 generalize (schedL block 64).map w32 = W at *
 generalize shaK.map w32 = Kc at *
 simp [argS,stW,storeA,fillA,c1,c2,l1,l2]
 refine ⟨q1,q2,?_⟩
 refine loop_count 64 (fun i s H' => ∃ Z,Z.length = 8 ∧ s 2 = .ptr H.length 0 8 0 0 ∧ s 4 = .ptr (H.length + 1) 0 8 0 0 ∧ s 5 = .ptr (H.length + 2) 0 64 0 0 ∧ s 6 = .ptr (H.length + 3) 0 64 0 0 ∧ s 39 = .int .i64 i ∧
  s 7 = w32 (R i).a ∧ s 8 = w32 (R i).b ∧ s 9 = w32 (R i).c ∧ s 10 = w32 (R i).d ∧ s 11 = w32 (R i).e ∧ s 12 = w32 (R i).f ∧ s 13 = w32 (R i).g ∧ s 14 = w32 (R i).h ∧
  H' = H ++ [.rows 8 0 [stW v0],.rows 8 0 [Z],.rows 64 0 [W],.rows 64 0 [Kc]]) ?_ ?_
 ·refine ⟨List.replicate 8 (.int .u32 0),rfl,rfl,rfl,rfl,rfl,rfl,?_⟩
  rw [h0]; exact ⟨rfl,rfl,rfl,rfl,rfl,rfl,rfl,rfl,rfl⟩
 rintro i s H' ⟨Z,hZ,e2,e4,e5,e6,e39,e7,e8,e9,e10,e11,e12,e13,e14,rfl⟩ hi
 by_cases h : i < 64
 ·have hs := hs i h
  have hk := hk i h
  have hr := hround i
  have hi64 : (i : Int) < 64 := by omega
  simp [-getElem?_pos,List.getElem?_cons_zero,stW,e2,e4,e5,e6,e39,e7,e8,e9,e10,e11,e12,e13,e14,hi64,h,hs,hk,r6,r11,r25,r2,r13,r22,w_add,w_xor,w_and,w_not,fillA,storeA,wrap_succ h (by decide)]
  refine ⟨Z,hZ,?_⟩
  rw [hr]
  exact ⟨rfl,rfl,rfl,rfl,rfl,rfl,rfl,rfl,rfl⟩
 have h : i = 64 := by omega
 subst h
 clear hround hs hk
 generalize R 64 = v at *
 simp [e2,e4,e5,e6,e39,e7,e8,e9,e10,e11,e12,e13,e14,fillA]
 refine loop_count 8 (fun i s H' => s 2 = .ptr H.length 0 8 0 0 ∧ s 4 = .ptr (H.length + 1) 0 8 0 0 ∧ s 110 = .agg (stW v) ∧ s 111 = .int .i64 i ∧
  H' = H ++ [.rows 8 0 [(stW ⟨v0.a + v.a,v0.b + v.b,v0.c + v.c,v0.d + v.d,v0.e + v.e,v0.f + v.f,v0.g + v.g,v0.h + v.h⟩).take i ++ (stW v0).drop i],.rows 8 0 [Z],.rows 64 0 [W],.rows 64 0 [Kc]]) ?_ ?_
 ·exact ⟨e2,e4,rfl,rfl,rfl⟩
 clear e2 e4 e5 e6 e39 e7 e8 e9 e10 e11 e12 e13 e14
 rintro i s H' ⟨e2,e4,e110,e111,rfl⟩ hi
 by_cases h : i < 8
 ·have hk : i = 0 ∨ i = 1 ∨ i = 2 ∨ i = 3 ∨ i = 4 ∨ i = 5 ∨ i = 6 ∨ i = 7 := by omega
  rcases hk with rfl | rfl | rfl | rfl | rfl | rfl | rfl | rfl
  all_goals
   simp [stW,e2,e4,e110,e111,indexA,partA,w_add,storeA]
   rfl
 have h : i = 8 := by omega
 subst h
 simp [stW,e2,e4,e110,e111,storeA,List.drop_of_length_le (Nat.le_of_eq hZ)]
 exact ⟨by omega,freeze_closed rfl⟩
end Go.Proofs.Ev
