/- Part 24 of the proof that quiltlaw38.BlameEvents returns true: no statement of its own. -/
import Derived.Test.YtckbkhfaahpanaaGreatDoorE22
set_option linter.all false
namespace Go.Proofs.Ev
open Go.Proofs
variable {C : Cfg} {σ : Sorts}
theorem backD_eq (S : SettingT C σ) (v : AV) (hv : v.leaf = true) (hc : v.cells = [v]) {base : Nat} {H : Heap} (K : AV → Heap → Prop) :
 CallW Tryz.prog C base (.fn 109 []) [v] H K = K (.fn 166 [.ptr H.length 0 1 0 0]) (H ++ [.rows 1 0 [[v]]]) := by
 refine CallW.eq (call_rule (S.plainT _ (by decide)).1 (S.plainT _ (by decide)).2 (func_rule Tryz.func109 rfl (S.prim _ (by decide)) (by simp) (by kernel_rfl) ?_)) K
 unfold Tryz.f109
 simp [argS,hv,hc]
theorem backA_eq (S : SettingT C σ) (v : AV) (hv : v.leaf = true) (hc : v.cells = [v]) {base : Nat} {H : Heap} (K : AV → Heap → Prop) :
 CallW Tryz.prog C base (.fn 110 []) [v] H K = K (.fn 167 [.ptr H.length 0 1 0 0]) (H ++ [.rows 1 0 [[v]]]) := by
 refine CallW.eq (call_rule (S.plainT _ (by decide)).1 (S.plainT _ (by decide)).2 (func_rule Tryz.func110 rfl (S.prim _ (by decide)) (by simp) (by kernel_rfl) ?_)) K
 unfold Tryz.f110
 simp [argS,hv,hc]
theorem back_walkD (S : SettingT C σ) {l : List DigV} {k : SK} {base bl bs : Nat} (hl : l.length ≤ 2 ^ 40) {I : Nat → Heap → Prop} (hb : ∀ j X,I j X → blkRow X bs 0 1 0 = some [slAV k (l.map DigV.cells)])
 (hy : ∀ (j m : Nat) X d,I j X → m + j + 1 = l.length → l[m]? = some d → CallW Tryz.prog C base (.yld bl) [.int .i64 (m : Int),.agg d.cells] X fun v X' => v = .bool true ∧ I (j + 1) X') {X0 : Heap} (h0 : I 0 X0) (K : AV → Heap → Prop) (hK : ∀ X,I l.length X → K (.tup []) X) :
 FuncW Tryz.prog C base 166 [.yld bl,.ptr bs 0 1 0 0] X0 K := by
 refine func_rule Tryz.func166 rfl (S.prim _ (by decide)) (by simp) (by kernel_rfl) ?_
 unfold Tryz.f166
 have hb0 := hb 0 X0 h0
 have w0 : IntKind.i64.wrap ((l.length : Int) - 1) = (l.length : Int) - 1 := wrap_in (by omega) (by omega)
 simp [argS,hb0,w0]
 refine loop_count l.length (fun j s X => s 0 = .yld bl ∧ s 1 = .ptr bs 0 1 0 0 ∧ s 3 = .int .i64 ((l.length : Int) - 1 - j) ∧ I j X) ?_ ?_
 ·exact ⟨rfl,rfl,by simp,h0⟩
 rintro j s X ⟨q0,q1,q3,hI⟩ hj
 by_cases h : j < l.length
 ·obtain ⟨m,hm⟩ : ∃ m,m + j + 1 = l.length := ⟨l.length - 1 - j,by omega⟩
  have hmi : (l.length : Int) - 1 - j = (m : Int) := by omega
  rw [hmi] at q3
  have hml : m < l.length := by omega
  obtain ⟨X',hI',ey⟩ := CallW.ex (hy j m X l[m] hI hm (List.getElem?_eq_getElem hml))
  have w1 : IntKind.i64.wrap ((m : Int) - 1) = (l.length : Int) - 1 - ((j : Int) + 1) := by rw [wrap_in (by omega) (by omega)]; omega
  simp [q0,q1,q3,hb j X hI,hml,ey,w1]
  exact ⟨h,hI'⟩
 ·have h' : j = l.length := by omega
  have hneg : (l.length : Int) - 1 - j = -1 := by omega
  rw [hneg] at q3
  rw [h'] at hI
  simp [q0,q1,q3]
  exact hK X hI
theorem back_walkA (S : SettingT C σ) {l : List AtV} {k : SK} {base bl bs : Nat} (hl : l.length ≤ 2 ^ 40) {I : Nat → Heap → Prop} (hb : ∀ j X,I j X → blkRow X bs 0 1 0 = some [slAV k (l.map AtV.cells)])
 (hy : ∀ (j m : Nat) X d,I j X → m + j + 1 = l.length → l[m]? = some d → CallW Tryz.prog C base (.yld bl) [.int .i64 (m : Int),.agg d.cells] X fun v X' => v = .bool true ∧ I (j + 1) X') {X0 : Heap} (h0 : I 0 X0) (K : AV → Heap → Prop) (hK : ∀ X,I l.length X → K (.tup []) X) :
 FuncW Tryz.prog C base 167 [.yld bl,.ptr bs 0 1 0 0] X0 K := by
 refine func_rule Tryz.func167 rfl (S.prim _ (by decide)) (by simp) (by kernel_rfl) ?_
 unfold Tryz.f167
 have hb0 := hb 0 X0 h0
 have w0 : IntKind.i64.wrap ((l.length : Int) - 1) = (l.length : Int) - 1 := wrap_in (by omega) (by omega)
 simp [argS,hb0,w0]
 refine loop_count l.length (fun j s X => s 0 = .yld bl ∧ s 1 = .ptr bs 0 1 0 0 ∧ s 3 = .int .i64 ((l.length : Int) - 1 - j) ∧ I j X) ?_ ?_
 ·exact ⟨rfl,rfl,by simp,h0⟩
 rintro j s X ⟨q0,q1,q3,hI⟩ hj
 by_cases h : j < l.length
 ·obtain ⟨m,hm⟩ : ∃ m,m + j + 1 = l.length := ⟨l.length - 1 - j,by omega⟩
  have hmi : (l.length : Int) - 1 - j = (m : Int) := by omega
  rw [hmi] at q3
  have hml : m < l.length := by omega
  obtain ⟨X',hI',ey⟩ := CallW.ex (hy j m X l[m] hI hm (List.getElem?_eq_getElem hml))
  have w1 : IntKind.i64.wrap ((m : Int) - 1) = (l.length : Int) - 1 - ((j : Int) + 1) := by rw [wrap_in (by omega) (by omega)]; omega
  simp [q0,q1,q3,hb j X hI,hml,ey,w1]
  exact ⟨h,hI'⟩
 ·have h' : j = l.length := by omega
  have hneg : (l.length : Int) - 1 - j = -1 := by omega
  rw [hneg] at q3
  rw [h'] at hI
  simp [q0,q1,q3]
  exact hK X hI
structure Lates (C : Cfg) (base bl bs start N : Nat) (s : List StoredV) (k : SK) (I : List AtV → Heap → Prop) : Prop where
 app : ∀ {l : List AtV} {X : Heap} (L : Heap),I l X → I l (X ++ L)
 set : ∀ {l : List AtV} {X : Heap} {b : Nat} {blk : Blk} (x : Blk),I l X → start ≤ b → X[b]? = some blk → (∀ g rs,blk ≠ .rows 33 g rs) → I l (X.set b x)
 low : ∀ {l : List AtV} {X : Heap},I l X → base ≤ start ∧ start ≤ X.length
 src : ∀ {l : List AtV} {X : Heap},I l X → blkRow X bs 0 1 0 = some [slAV k (s.map StoredV.cells)]
 yld : ∀ {l : List AtV} {X : Heap} (y : AtV),I l X → l.length ≤ N → y.over.length ≤ 2 ^ 10 → ∃ X',I (l ++ [y]) X' ∧ (∀ b blk,start ≤ b → X[b]? = some blk → (∀ g rs,blk ≠ .rows 33 g rs) → X'[b]? = some blk) ∧
  ∀ K : AV → Heap → Prop,CallW Tryz.prog C base (.yld bl) [.agg y.cells] X K = K (.bool true) X'
def latA (σ : Sorts) (s : List StoredV) (L : List DigV) (j : Nat) : List AtV := ((L.reverse.take j).map fun d => (atomsP σ (getP s d.d)).reverse).flatten
theorem latA_succ {s : List StoredV} {L : List DigV} {j m : Nat} {d : DigV} (hm : m + j + 1 = L.length) (hd : L[m]? = some d) : latA σ s L (j + 1) = latA σ s L j ++ (atomsP σ (getP s d.d)).reverse := by
 have h : L.reverse[j]? = some d := by rw [List.getElem?_reverse (by omega),show L.length - 1 - j = m by omega]; exact hd
 unfold latA
 rw [List.take_add_one,h]; simp
theorem ordP_mem : ∀ (s : List StoredV) (n : Nat) (out : List DigV) (d : DigV),d ∈ ordP σ s n out → d ∈ out ∨ ∃ x ∈ s,x.id = d
 | s,0,out,d,h => .inl h
 | s,n + 1,out,d,h => by
  rw [ordP] at h
  cases hf : s.find? (okP σ out) with
  | none => rw [hf] at h; exact .inl h
  | some x =>
   rw [hf] at h
   rcases ordP_mem s n _ d h with h | h
   ·rcases List.mem_append.1 h with h | h
    ·exact .inl h
    ·exact .inr ⟨x,List.mem_of_find?_eq_some hf,(List.mem_singleton.1 h).symm⟩
   ·exact .inr h
theorem ordP_len : ∀ (s : List StoredV) (n : Nat) (out : List DigV),(ordP σ s n out).length ≤ out.length + n
 | s,0,out => by rw [ordP]; omega
 | s,n + 1,out => by
  rw [ordP]
  cases hf : s.find? (okP σ out) with
  | none => simp only; omega
  | some x => simp only; have := ordP_len s n (out ++ [x.id]); simp at this; omega
end Go.Proofs.Ev
namespace Go.Proofs.Ev
open Go.Proofs
variable {C : Cfg} {σ : Sorts}
theorem latest_eq (S : SettingT C σ) (v : AV) (hv : v.leaf = true) (hc : v.cells = [v]) {base : Nat} {H : Heap} (K : AV → Heap → Prop) :
 CallW Tryz.prog C base (.fn 60 []) [v] H K = K (.fn 108 [.ptr H.length 0 1 0 0]) (H ++ [.rows 1 0 [[v]]]) := by
 refine CallW.eq (call_rule (S.plainT _ (by decide)).1 (S.plainT _ (by decide)).2 (func_rule Tryz.func60 rfl (S.prim _ (by decide)) (by simp) (by kernel_rfl) ?_)) K
 unfold Tryz.f60
 simp [argS,hv,hc]
def LatJ (σ : Sorts) (s : List StoredV) (I : List AtV → Heap → Prop) (bl y0 : Nat) (v0 : AV) (LB : Blk) (L : List DigV) (j : Nat) (X : Heap) : Prop :=
 I (latA σ s L j) X ∧ X[y0]? = some (.rows 1 0 [[.yld bl]]) ∧ X[y0 + 1]? = some (.rows 1 0 [[v0]]) ∧ X[y0 + 2]? = some LB
def LatK (I : List AtV → Heap → Prop) (bl y0 : Nat) (v0 : AV) (BB : Blk) (a0 : Nat) (vA : AV) (LB2 : Blk) (P A : List AtV) (j : Nat) (X : Heap) : Prop :=
 I (P ++ A.reverse.take j) X ∧ X[y0]? = some (.rows 1 0 [[.yld bl]]) ∧ X[y0 + 1]? = some (.rows 1 0 [[v0]]) ∧ X[y0 + 2]? = some BB ∧ X[a0]? = some (.rows 1 0 [[vA]]) ∧ X[a0 + 1]? = some LB2
theorem lat_outer (S : SettingT C σ) {s : List StoredV} {I : List AtV → Heap → Prop} {base bl bs start N : Nat} {k kL : SK} (Y : Lates C base bl bs start N s k I) {L : List DigV} (hL : L.length ≤ 2 ^ 20) {X0 : Heap} (h0 : I [] X0)
 {l1 : List AV} {ps : List Tmp} {asg bd : Code} {nb po : Nat} {X : Heap} (hX : X = X0 ++ [.rows 1 0 [[.yld bl]],.rows 1 0 [[slAV kL (L.map DigV.cells)]]]) (hnb : nb = X0.length + 2) (hpo : po = X0.length + 1)
 (hy : ∀ (LB BB : Blk) (_ : loopB l1 ps asg bd = LB) (_ : busyB l1 ps asg bd = BB) (j m : Nat) (X : Heap) (d : DigV),LatJ σ s I bl X0.length (slAV kL (L.map DigV.cells)) LB L j X → m + j + 1 = L.length → L[m]? = some d →
  CallW Tryz.prog C base (.yld (X0.length + 2)) [.int .i64 (m : Int),.agg d.cells] X fun v X' => v = .bool true ∧ LatJ σ s I bl X0.length (slAV kL (L.map DigV.cells)) LB L (j + 1) X')
 (K : AV → Heap → Prop) (hK : ∀ X,LatJ σ s I bl X0.length (slAV kL (L.map DigV.cells)) (loopB l1 ps asg bd) L L.length X → K (.tup []) X) :
 FuncW Tryz.prog C base 166 [.yld nb,.ptr po 0 1 0 0] (X ++ [loopB l1 ps asg bd]) K := by
 subst hnb; subst hpo
 refine back_walkD S (l := L) (k := kL) (by omega) (I := LatJ σ s I bl X0.length (slAV kL (L.map DigV.cells)) (loopB l1 ps asg bd) L) ?_ (hy _ _ rfl rfl) ?_ K hK
 ·rintro j X ⟨_,_,h,_⟩
  simp [blkRow,h]
 ·refine ⟨?_,?_,?_,?_⟩
  ·have := Y.app [.rows 1 0 [[.yld bl]],.rows 1 0 [[slAV kL (L.map DigV.cells)]],loopB l1 ps asg bd] h0
   rw [hX]; simpa [latA] using this
  ·rw [hX]; simp
  ·rw [hX]; simp
  ·rw [hX]; simp
theorem lat_inner (S : SettingT C σ) {s : List StoredV} {I : List AtV → Heap → Prop} {base bl bs start N : Nat} {k kA : SK} (Y : Lates C base bl bs start N s k I) {P A : List AtV} (hA : A.length ≤ 2 ^ 20) {W : Heap} {y0 : Nat} {v0 : AV} {BB : Blk} (h0 : I P W) (g0 : W[y0]? = some (.rows 1 0 [[.yld bl]])) (g1 : W[y0 + 1]? = some (.rows 1 0 [[v0]])) (g2 : W[y0 + 2]? = some BB)
 {l2 : List AV} {ps : List Tmp} {asg bd : Code} {nb po : Nat} {X : Heap} {r1 r2 : Blk} (hX : X = W ++ [r1,r2,.rows 1 0 [[slAV kA (A.map AtV.cells)]]]) (hnb : nb = W.length + 3) (hpo : po = W.length + 2)
 (hy : ∀ (LB2 BB2 : Blk) (_ : loopB l2 ps asg bd = LB2) (_ : busyB l2 ps asg bd = BB2) (j m : Nat) (X : Heap) (x : AtV),LatK I bl y0 v0 BB (W.length + 2) (slAV kA (A.map AtV.cells)) LB2 P A j X → m + j + 1 = A.length → A[m]? = some x →
  CallW Tryz.prog C base (.yld (W.length + 3)) [.int .i64 (m : Int),.agg x.cells] X fun v X' => v = .bool true ∧ LatK I bl y0 v0 BB (W.length + 2) (slAV kA (A.map AtV.cells)) LB2 P A (j + 1) X')
 (K : AV → Heap → Prop) (hK : ∀ X,LatK I bl y0 v0 BB (W.length + 2) (slAV kA (A.map AtV.cells)) (loopB l2 ps asg bd) P A A.length X → K (.tup []) X) :
 FuncW Tryz.prog C base 167 [.yld nb,.ptr po 0 1 0 0] (X ++ [loopB l2 ps asg bd]) K := by
 subst hnb; subst hpo
 have kp : ∀ {j : Nat} {blk : Blk} (M : Heap),W[j]? = some blk → (W ++ M)[j]? = some blk := fun M h => by rw [List.getElem?_append_left (List.getElem?_eq_some_iff.1 h).1]; exact h
 refine back_walkA S (l := A) (k := kA) (by omega) (I := LatK I bl y0 v0 BB (W.length + 2) (slAV kA (A.map AtV.cells)) (loopB l2 ps asg bd) P A) ?_ (hy _ _ rfl rfl) ?_ K hK
 ·rintro j X ⟨_,_,_,_,h,_⟩
  simp [blkRow,h]
 ·refine ⟨?_,?_,?_,?_,?_,?_⟩
  ·have := Y.app [r1,r2,.rows 1 0 [[slAV kA (A.map AtV.cells)]],loopB l2 ps asg bd] h0
   rw [hX]; simpa using this
  ·rw [hX,List.append_assoc]; exact kp _ g0
  ·rw [hX,List.append_assoc]; exact kp _ g1
  ·rw [hX,List.append_assoc]; exact kp _ g2
  ·rw [hX]; simp
  ·rw [hX,show W.length + 2 + 1 = W.length + 3 from rfl,List.append_assoc,app_get]; rfl
theorem atomsP_over (hp : ∀ l,(σ.i l).Perm l) {p : PatchV} (h : p.Good) : ∀ x ∈ atomsP σ p,x.over.length ≤ 2 ^ 10 := by
 intro x hx
 obtain ⟨y,hy,rfl⟩ := List.mem_map.1 hx
 have h1 := h.fit.atomOver y hy
 have h2 : (atP σ p.dig y).over = σ.i (y.over.map fun z => wholeV z p.dig) := rfl
 rw [h2,(hp _).length_eq,List.length_map]; exact h1
theorem latA_len {s : List StoredV} (hs : SetGood s) {L : List DigV} (hL : ∀ d ∈ L,hasS s d.d = true) (j : Nat) : (latA σ s L j).length ≤ 90000 * L.length := by
 have h := flatten_len (f := fun d : DigV => (atomsP σ (getP s d.d)).reverse) (b := 90000) (l := L.reverse.take j) fun d hd => by
  rw [List.length_reverse]
  exact atomsP_len (getP_good hs (hL d (List.mem_reverse.1 (List.mem_of_mem_take hd)))).1
 have h2 : (L.reverse.take j).length ≤ L.length := by simp; omega
 have h3 : 90000 * (L.reverse.take j).length ≤ 90000 * L.length := Nat.mul_le_mul_left _ h2
 unfold latA
 omega
set_option maxRecDepth 100000 in
set_option maxHeartbeats 8000000 in
theorem latest_walk (S : SettingT C σ) {s0 : List StoredV} {k : SK} (hs : SetGood s0) (h8 : s0.length ≤ 8) {base bl bs start : Nat} {I : List AtV → Heap → Prop} (Y : Lates C base bl bs start (2 ^ 20) s0 k I) {X0 : Heap} (h0 : I [] X0) (K : AV → Heap → Prop)
 (hK : ∀ X,I (latA σ s0 (ordP σ s0 s0.length []) (ordP σ s0 s0.length []).length) X → K (.tup []) X) :
 FuncW Tryz.prog C base 108 [.yld bl,.ptr bs 0 1 0 0] X0 K := by
 refine func_rule Tryz.func108 rfl (S.prim _ (by decide)) (by simp) (by kernel_rfl) ?_
 unfold Tryz.f108
 obtain ⟨L,hL⟩ : ∃ L,L = ordP σ s0 s0.length [] := ⟨_,rfl⟩
 have hLm : ∀ d ∈ L,hasS s0 d.d = true := by
  intro d hd
  rw [hL] at hd
  rcases ordP_mem s0 _ _ d hd with h | ⟨x,hx,rfl⟩
  ·cases h
  ·unfold hasS; rw [List.find?_isSome]; exact ⟨x,hx,by simp⟩
 have hLl : L.length ≤ 8 := by rw [hL]; have := ordP_len (σ := σ) s0 s0.length []; simp at this; omega
 have eo := (ret_Order S.toSettingS s0 k hs).eq
 rw [← hL] at eo hK
 obtain ⟨hbst,hstX⟩ := Y.low h0
 obtain ⟨v0,hv0⟩ : ∃ v0,v0 = slAV (nlK L) (L.map DigV.cells) := ⟨_,rfl⟩
 rw [← hv0] at eo
 have hv0l : v0.leaf = true := by rw [hv0]; simp
 have hv0c : v0.cells = [v0] := by rw [hv0]; simp
 have eb := fun (H : Heap) (K : AV → Heap → Prop) => backD_eq S v0 hv0l hv0c (base := base) (H := H) K
 have hsrc : ∀ M,blkRow (X0 ++ M) bs 0 1 0 = some [slAV k (s0.map StoredV.cells)] := fun M => Y.src (Y.app M h0)
 refine cut (fun s X => s 1 = .ptr bs 0 1 0 0 ∧ s 2 = .ptr X0.length 0 1 0 0 ∧ X = X0 ++ [.rows 1 0 [[.yld bl]]]) ?_ ?_
 ·simp [argS]
  exact ⟨by intro x hx; simp only [AV.cells,List.mem_singleton] at hx; subst hx; rfl,rfl,rfl⟩
 rintro s X ⟨q1,q2,rfl⟩
 refine cut (fun s X => s 1 = .ptr bs 0 1 0 0 ∧ s 2 = .ptr X0.length 0 1 0 0 ∧ s 13 = .fn 166 [.ptr (X0.length + 1) 0 1 0 0] ∧ X = X0 ++ [.rows 1 0 [[.yld bl]],.rows 1 0 [[v0]]]) ?_ ?_
 ·simp [q1,q2,hsrc,eo,eb]
 clear q1 q2
 rintro s X ⟨q1,q2,q13,rfl⟩
 rw [wp_block,wp_range]
 refine range_rule (f := 166) (caps := [.ptr (X0.length + 1) 0 1 0 0]) (by simp [q13]) fun l1 hr1 => ?_
 refine lat_outer S (s := s0) Y (kL := nlK L) (L := L) (by omega) h0 (by rw [hv0]) (by simp) rfl ?_ _ ?_
 rotate_left
 ·rintro X ⟨hI,g0,g1,g2⟩
  have hlen : (X0 ++ [Blk.rows 1 0 [[AV.yld bl]],.rows 1 0 [[v0]]]).length = X0.length + 2 := by simp
  rw [hlen,afterR_loop g2]
  simp
  exact hK _ (Y.set _ hI (by omega) g2 (by intro g rs h; cases h))
 rw [← hv0]
 intro LB BB hLB hBB j m X d hJ hmj hd
 obtain ⟨hI,g0,g1,g2⟩ := hJ
 have hLr : ∀ sz g rs,LB ≠ .rows sz g rs := by intro sz g rs h; rw [← hLB] at h; cases h
 have hBr : ∀ sz g rs,BB ≠ .rows sz g rs := by intro sz g rs h; rw [← hBB] at h; cases h
 have hXl : X0.length + 2 < X.length := (List.getElem?_eq_some_iff.1 g2).1
 have hdm : d ∈ L := List.mem_of_getElem? hd
 obtain ⟨hpg,_⟩ := getP_good hs (hLm d hdm)
 have eg := (ret_GetP S.toSettingS s0 k d hs.2.2).eq
 have ea := (ret_Atoms S.toSettingQ (getP s0 d.d) hpg).eq
 obtain ⟨p,hp⟩ : ∃ p,p = getP s0 d.d := ⟨_,rfl⟩
 obtain ⟨A,hA⟩ : ∃ A,A = atomsP σ p := ⟨_,rfl⟩
 have hsucc := latA_succ (σ := σ) (s := s0) hmj hd
 have hlat := latA_len (σ := σ) hs hLm (j + 1)
 rw [← hp] at eg ea hpg hsucc
 rw [← hA] at ea hsucc
 have hAl : A.length ≤ 90000 := by rw [hA]; exact atomsP_len hpg
 have hAo : ∀ x ∈ A,x.over.length ≤ 2 ^ 10 := by rw [hA]; exact atomsP_over S.permI hpg
 obtain ⟨vA,hvA⟩ : ∃ vA,vA = slAV .loose (A.map AtV.cells) := ⟨_,rfl⟩
 have hsl : AV.lst (A.map AtV.cells) false = vA := by rw [hvA]; cases A <;> rfl
 rw [hsl] at ea
 have eba := fun (H : Heap) (K : AV → Heap → Prop) => backA_eq S vA (by rw [hvA]; simp) (by rw [hvA]; simp) (base := base) (H := H) K
 obtain ⟨W,hW⟩ : ∃ W,W = X.set (X0.length + 2) BB := ⟨_,rfl⟩
 have hWl : W.length = X.length := by rw [hW]; simp
 have hIW : I (latA σ s0 L j) W := by rw [hW]; exact Y.set BB hI (by omega) g2 (hLr _)
 have hgl : ∀ M,(X ++ M)[X0.length + 2]? = some LB := fun M => by rw [List.getElem?_append_left hXl]; exact g2
 have hsl2 : ∀ M,(X ++ M).set (X0.length + 2) BB = W ++ M := fun M => by rw [hW]; exact List.set_append_left _ _ hXl
 have hsrcW : ∀ M,blkRow (W ++ M) bs 0 1 0 = some [slAV k (s0.map StoredV.cells)] := fun M => Y.src (Y.app M hIW)
 have hbX : base ≤ X.length := by omega
 have gW0 : W[X0.length]? = some (.rows 1 0 [[.yld bl]]) := by rw [hW,List.getElem?_set_ne (by omega)]; exact g0
 have gW1 : W[X0.length + 1]? = some (.rows 1 0 [[v0]]) := by rw [hW,List.getElem?_set_ne (by omega)]; exact g1
 have gW2 : W[X0.length + 2]? = some BB := by rw [hW,List.getElem?_set_self hXl]
 have hd0 : digest0.length = 32 := by decide
 have h32 : d.d.length = 32 := d.h
 have hdc : d.cells = dig d.d := rfl
 have g2' := g2
 rw [← hLB] at g2'
 refine yield_rule hr1 (hget := g2') (by omega) rfl (by decide) (by kernel_rfl) (by kernel_rfl) ?_
 rw [hLB,hBB]
 have hb32 : ∀ M,blkRow (W ++ Blk.rows 32 0 [d.cells] :: M) X.length 0 32 0 = some d.cells := fun M => by rw [← hWl]; simp
 have hdr : List.drop 32 (dig digest0) = [] := by decide
 simp [q1,q2,storeA,hd0,hdr,hgl,hsl2,hbX,hsrcW,hb32,eg,ea,eba,fillA]
 refine ⟨by omega,?_⟩
 refine range_rule (f := 167) (caps := [.ptr (W.length + 2) 0 1 0 0]) (by simp) fun l2 hr2 => ?_
 refine lat_inner S (s := s0) Y (kA := .loose) (A := A) (by omega) hIW gW0 gW1 gW2 (by rw [← hvA]) (by simp) rfl ?_ _ ?_
 rotate_left
 ·rintro X3 ⟨hI3,f0,f1,f2,f3,f4⟩
  have hlen : (W ++ [Blk.rows 32 0 [d.cells],.rows 5 0 [p.cells],.rows 1 0 [[vA]]]).length = W.length + 2 + 1 := by simp
  rw [hlen,afterR_loop f4]
  have hI4 := Y.set .dead hI3 (by omega) f4 (by intro g rs h; cases h)
  have hX3 : W.length + 2 + 1 < X3.length := (List.getElem?_eq_some_iff.1 f4).1
  have f2' : (X3.set (W.length + 2 + 1) .dead)[X0.length + 2]? = some BB := by rw [List.getElem?_set_ne (by omega)]; exact f2
  have hI5 := Y.set LB hI4 (by omega) f2' (hBr _)
  rw [← List.length_reverse,List.take_length,← hsucc] at hI5
  simp [f2',hLB]
  refine ⟨rfl,hI5,?_,?_,?_⟩
  ·rw [List.getElem?_set_ne (by omega),List.getElem?_set_ne (by omega)]; exact f0
  ·rw [List.getElem?_set_ne (by omega),List.getElem?_set_ne (by omega)]; exact f1
  ·rw [List.getElem?_set_self (by simp; omega)]
 rw [← hvA]
 intro LB2 BB2 hLB2 hBB2 j2 m2 X3 x hK2 hm2 hx2
 obtain ⟨hI3,f0,f1,f2,f3,f4⟩ := hK2
 have hL2r : ∀ sz g rs,LB2 ≠ .rows sz g rs := by intro sz g rs h; rw [← hLB2] at h; cases h
 have hB2r : ∀ sz g rs,BB2 ≠ .rows sz g rs := by intro sz g rs h; rw [← hBB2] at h; cases h
 have hX3l : W.length + 2 + 1 < X3.length := (List.getElem?_eq_some_iff.1 f4).1
 have hxm : x ∈ A := List.mem_of_getElem? hx2
 have hrev : A.reverse[j2]? = some x := by rw [List.getElem?_reverse (by omega),show A.length - 1 - j2 = m2 by omega]; exact hx2
 have htk : A.reverse.take (j2 + 1) = A.reverse.take j2 ++ [x] := by rw [List.take_add_one,hrev]; rfl
 obtain ⟨V,hV⟩ : ∃ V,V = X3.set (W.length + 2 + 1) BB2 := ⟨_,rfl⟩
 have hVl : V.length = X3.length := by rw [hV]; simp
 have hIV : I (latA σ s0 L j ++ A.reverse.take j2) V := by rw [hV]; exact Y.set BB2 hI3 (by omega) f4 (hL2r _)
 have hgl3 : ∀ M,(X3 ++ M)[W.length + 2 + 1]? = some LB2 := fun M => by rw [List.getElem?_append_left hX3l]; exact f4
 have hsl3 : ∀ M,(X3 ++ M).set (W.length + 2 + 1) BB2 = V ++ M := fun M => by rw [hV]; exact List.set_append_left _ _ hX3l
 have hPl : (latA σ s0 L j ++ A.reverse.take j2).length ≤ 2 ^ 20 := by
  rw [hsucc] at hlat
  simp only [List.length_append,List.length_reverse,List.length_take] at hlat ⊢
  omega
 obtain ⟨X5,hI5,hkeep,ey⟩ := Y.yld x (Y.app [.rows 172 0 [x.cells]] hIV) hPl (hAo x hxm)
 have kV : ∀ {b : Nat} {blk : Blk},b ≠ W.length + 2 + 1 → X3[b]? = some blk → start ≤ b → (∀ g rs,blk ≠ .rows 33 g rs) → X5[b]? = some blk := by
  intro b blk hb hg hst hne
  have hbl := (List.getElem?_eq_some_iff.1 hg).1
  refine hkeep b blk hst ?_ hne
  rw [List.getElem?_append_left (by omega),hV,List.getElem?_set_ne (Ne.symm hb)]; exact hg
 have f4v : X5[W.length + 2 + 1]? = some BB2 := hkeep _ _ (by omega) (by rw [List.getElem?_append_left (by omega),hV,List.getElem?_set_self hX3l]) (hB2r _)
 have hX5l : W.length + 2 + 1 < X5.length := (List.getElem?_eq_some_iff.1 f4v).1
 have fy : ∀ M,blkRow (V ++ M) X0.length 0 1 0 = some [.yld bl] := fun M => by
  have : V[X0.length]? = some (.rows 1 0 [[.yld bl]]) := by rw [hV,List.getElem?_set_ne (by omega)]; exact f0
  exact blk_app (by simp [blkRow,this]) M
 have fx : ∀ M,blkRow (V ++ Blk.rows 172 0 [x.cells] :: M) X3.length 0 172 0 = some x.cells := fun M => by rw [← hVl]; simp
 have f4' := f4
 rw [← hLB2] at f4'
 refine yield_rule hr2 (hget := f4') (by omega) rfl (by decide) (by kernel_rfl) (by kernel_rfl) ?_
 rw [hLB2,hBB2]
 have hb3 : base ≤ X3.length := by omega
 have q2b : X0.length = X0.length := rfl
 simp [q2,storeA,fillA,hgl3,hsl3,hb3,fy,fx,ey,f4v,hLB2]
 have hI6 := Y.set LB2 hI5 (by omega) f4v (hB2r _)
 rw [List.append_assoc,← htk] at hI6
 refine ⟨rfl,hI6,?_,?_,?_,?_,?_⟩
 ·rw [List.getElem?_set_ne (by omega)]; exact kV (by omega) f0 (by omega) (by intro g rs h; cases h)
 ·rw [List.getElem?_set_ne (by omega)]; exact kV (by omega) f1 (by omega) (by intro g rs h; cases h)
 ·rw [List.getElem?_set_ne (by omega)]; exact kV (by omega) f2 (by omega) (hBr _)
 ·rw [List.getElem?_set_ne (by omega)]; exact kV (by omega) f3 (by omega) (by intro g rs h; cases h)
 ·rw [show W.length + 3 = W.length + 2 + 1 from rfl,List.getElem?_set_self hX5l]
end Go.Proofs.Ev
namespace Go.Proofs.Ev
open Go.Proofs
variable {C : Cfg} {σ : Sorts}
theorem sameId_eq {a b : IdV} (h : sameId a b = true) : a = b := by
 rw [sameId_iff] at h
 cases a; cases b
 simp only at h
 obtain ⟨rfl,rfl⟩ := h
 rfl
theorem conf_id (x : IdV) : conf (List.replicate 32 (.int .u8) ++ [.int .i64]) x.cells = true := by
 have key : ∀ (ks : List LK) (cs : List AV),conf ks cs = true → conf (ks ++ [.int .i64]) (cs ++ [.int .i64 x.n]) = true := by
  intro ks
  induction ks with
  | nil =>
   intro cs h
   cases cs with
   | nil => rfl
   | cons _ _ => cases h
  | cons k ks ih =>
   intro cs h
   cases cs with
   | nil => cases h
   | cons c cs =>
    simp only [conf,Bool.and_eq_true] at h
    simp only [List.cons_append,conf,Bool.and_eq_true]
    exact ⟨h.1,ih cs h.2⟩
 have h1 := conf_dig x.d; rw [x.h] at h1
 exact key _ _ h1
theorem keyOk_I (S : Setting C) (x : IdV) : keyOk Tryz.prog C 27 (.agg x.cells) = true := by
 simp only [keyOk,Tryz.underlying27,S.kId]
 exact conf_id x
theorem keyEq_I (S : Setting C) (a b : IdV) : keyEqA Tryz.prog C 27 (.agg a.cells) (.agg b.cells) = some (sameId a b) := by
 have h := eq_idV S a b
 simp only [binA] at h
 simp only [keyEqA]
 cases he : eqA Tryz.prog C 27 (.agg a.cells) (.agg b.cells) with
 | none => rw [he] at h; cases h
 | some z => rw [he] at h; simpa using h
def entI (l : List (IdV × AV)) : List (AV × AV) := l.map fun x => (.agg x.1.cells,x.2)
def posK (l : List (IdV × AV)) (d : IdV) : Option (Nat × AV) :=
 match l with
 | [] => none
 | x :: l => if sameId x.1 d then some (0,x.2) else (posK l d).map fun p => (p.1 + 1,p.2)
theorem sameId_comm (a b : IdV) : sameId a b = sameId b a := by
 rw [Bool.eq_iff_iff,sameId_iff,sameId_iff]
 exact ⟨fun h => ⟨h.1.symm,h.2.symm⟩,fun h => ⟨h.1.symm,h.2.symm⟩⟩
theorem find_I (S : Setting C) (d : IdV) : ∀ (l : List (IdV × AV)) (i : Nat),findA Tryz.prog C 27 (.agg d.cells) (entI l) i = some ((posK l d).map fun p => (p.1 + i,p.2))
 | [],i => rfl
 | x :: l,i => by
  have ih := find_I S d l (i + 1)
  rw [entI,List.map_cons,findA,keyEq_I S,posK,sameId_comm d x.1]
  cases h : sameId x.1 d with
  | true => simp
  | false =>
   simp only [Bool.false_eq_true,if_false]
   show findA Tryz.prog C 27 (.agg d.cells) (entI l) (i + 1) = _
   rw [ih]
   cases posK l d with
   | none => rfl
   | some p => simp; omega
theorem posK_some : ∀ {l : List (IdV × AV)} {d : IdV} {i : Nat} {v : AV},posK l d = some (i,v) → l[i]? = some (d,v)
 | [],_,_,_,h => by cases h
 | x :: l,d,i,v,h => by
  rw [posK] at h
  cases hs : sameId x.1 d with
  | true =>
   rw [hs,if_pos rfl] at h
   cases h
   rw [List.getElem?_cons_zero,← sameId_eq hs]
  | false =>
   rw [hs,if_neg (by decide)] at h
   cases hp : posK l d with
   | none => rw [hp] at h; cases h
   | some p =>
    rw [hp] at h
    cases h
    exact posK_some (l := l) hp
def hasI (l : List IdV) (d : IdV) : Bool := l.any fun x => sameId x d
def addI (l : List IdV) (d : IdV) : List IdV := if hasI l d then l else l ++ [d]
def retE (l : List IdV) : List (IdV × AV) := l.map fun d => (d,AV.bool true)
theorem pos_ret : ∀ (l : List IdV) (d : IdV),(posK (retE l) d).isSome = hasI l d ∧ ∀ p,posK (retE l) d = some p → p.2 = AV.bool true
 | [],d => by simp [retE,posK,hasI]
 | x :: l,d => by
  have ih := pos_ret l d
  have hc : posK (retE (x :: l)) d = if sameId x d then some (0,AV.bool true) else (posK (retE l) d).map fun p => (p.1 + 1,p.2) := rfl
  rw [hc]
  cases h : sameId x d with
  | true => exact ⟨by simp [hasI,h],fun p hp => by cases hp; rfl⟩
  | false =>
   simp only [Bool.false_eq_true,if_false]
   refine ⟨?_,fun p hp => ?_⟩
   ·rw [Option.isSome_map,ih.1]; simp [hasI,h]
   ·cases hq : posK (retE l) d with
    | none => rw [hq] at hp; cases hp
    | some q => rw [hq] at hp; cases hp; exact ih.2 q hq
theorem look_ret (S : Setting C) {X : Heap} {m : Nat} {l : List IdV} (hm : X[m]? = some (.map (entI (retE l)))) (d : IdV) : lookupA Tryz.prog C X 90 (.map m) (.agg d.cells) false = some (.bool (hasI l d)) := by
 have hf := find_I S d (retE l) 0
 obtain ⟨h1,h2⟩ := pos_ret l d
 simp only [lookupA,un90,keyOk_I S,entsA,hm,hf,if_true]
 cases hp : posK (retE l) d with
 | none => rw [hp] at h1; simp at h1; simp [← h1]
 | some p => rw [hp] at h1; simp at h1; simp [h2 p hp,← h1]
theorem upd_ret (S : Setting C) {base : Nat} {X : Heap} {m : Nat} {l : List IdV} (hb : base ≤ m) (hm : X[m]? = some (.map (entI (retE l)))) (d : IdV) :
 updateA Tryz.prog C base X 90 (.map m) (.agg d.cells) (.bool true) = some (X.set m (.map (entI (retE (addI l d))))) := by
 have hf := find_I S d (retE l) 0
 obtain ⟨h1,h2⟩ := pos_ret l d
 simp only [updateA,un90,keyOk_I S,hm,hf,hb,and_self,if_true]
 cases hp : posK (retE l) d with
 | none =>
  rw [hp] at h1
  have h0 : hasI l d = false := by simpa using h1.symm
  simp [addI,h0,entI,retE]
 | some p =>
  rw [hp] at h1
  have h0 : hasI l d = true := by simpa using h1.symm
  obtain ⟨i,v⟩ := p
  have h3 := posK_some hp
  have h4 : v = .bool true := h2 _ hp
  subst h4
  have hent : (entI (retE l)).set i (.agg d.cells,.bool true) = entI (retE l) := by
   have he : (entI (retE l))[i]? = some (.agg d.cells,.bool true) := by rw [entI,List.getElem?_map,h3]; rfl
   obtain ⟨hi,he⟩ := List.getElem?_eq_some_iff.1 he
   rw [← he,List.set_getElem_self]
  simp [addI,h0,hent]
structure KR where
 k : IdV
 b : Nat
 g : Nat
 l : List IdV
def KR.v (t : KR) : AV := .sl t.b t.g 33 0 t.l.length
def KR.e (t : KR) : IdV × AV := (t.k,t.v)
def KR.m (t : KR) : IdV × List IdV := (t.k,t.l)
def addM (M : List (IdV × List IdV)) (d y : IdV) : List (IdV × List IdV) :=
 match M with
 | [] => [(d,[y])]
 | x :: M => if sameId x.1 d then (x.1,x.2 ++ [y]) :: M else x :: addM M d y
def KsIs (lo : Nat) (T : List KR) (X : Heap) : Prop := (∀ t ∈ T,lo ≤ t.b ∧ X[t.b]? = some (.rows 33 t.g (t.l.map IdV.cells))) ∧ ∀ (i j : Nat) (t u : KR),T[i]? = some t → T[j]? = some u → i ≠ j → t.b ≠ u.b
theorem KsIs.keep {lo : Nat} {T : List KR} {X X' : Heap} (h : KsIs lo T X) (hX : ∀ (b g : Nat) (rs : List (List AV)),X[b]? = some (Blk.rows 33 g rs) → X'[b]? = some (Blk.rows 33 g rs)) : KsIs lo T X' :=
 ⟨fun t ht => ⟨(h.1 t ht).1,hX _ _ _ (h.1 t ht).2⟩,h.2⟩
theorem app_abs {P : Program} {base : Nat} {ts : Array TypeId} {e : TypeId} {xd : TypeDesc} {sz by_ : Nat} (h0 : (ts[0]?).bind P.underlying = some (.slice e)) (h1 : (ts[1]?).bind P.underlying = some xd) (hs : szOf P e = some sz) (hb : bytesOf P e = some by_)
 (hz : (ofZero P e).map (fun z => z.cells.length) = some sz) (hp : 0 < sz) {X : Heap} (hX : base ≤ X.length) {v x : AV} {rows ys : List (List AV)} (hv : (rows = [] ∧ v = .nils) ∨ ∃ b g,v = .sl b g sz 0 rows.length ∧ X[b]? = some (.rows sz g rows) ∧ base ≤ b)
 (hx : tailRows X xd x = some ys) (hy : ∀ r ∈ ys,r.length = sz) (hne : ys ≠ []) (hbound : (rows.length + ys.length) * (by_ + 1) ≤ 2 ^ 45) :
 ∃ b g X',appendA P base X ts v.denil x = some (.sl b g sz 0 (rows.length + ys.length),X') ∧ X'[b]? = some (.rows sz g (rows ++ ys)) ∧ (∀ k,k ≠ b → k < X.length → X'[k]? = X[k]?) ∧ ((∃ g' l,v = .sl b g' sz 0 l) ∨ (v = .nils ∧ b = X.length)) ∧ base ≤ b ∧ X.length ≤ X'.length := by
 have hc : (ys.all fun r => decide (r.length = sz)) = true := by simpa using hy
 unfold appendA
 simp only [h0,h1,hs,hb,hx,hc,hp,hz,and_self,if_true]
 rcases hv with ⟨rfl,rfl⟩ | ⟨b,g,rfl,hg,hbb⟩
 ·simp only [AV.denil]
  rw [if_neg (by simpa using hne),if_pos ⟨trivial,by simpa using hbound,by simp⟩]
  refine ⟨X.length,clsG P e sz,_,rfl,by simp,fun k hk hkl => by rw [List.getElem?_append_left hkl],.inr (by simp),hX,by simp⟩
 ·have hlt : b < X.length := (List.getElem?_eq_some_iff.1 hg).1
  simp only [AV.denil,hg]
  rw [if_pos ⟨hbb,trivial,trivial,trivial,trivial,hbound⟩]
  exact ⟨b,_,_,rfl,by rw [List.getElem?_set_self hlt],fun k hk _ => by rw [List.getElem?_set_ne (Ne.symm hk)],.inl ⟨_,_,rfl⟩,hbb,by simp⟩
end Go.Proofs.Ev
namespace Go.Proofs.Ev
open Go.Proofs
variable {C : Cfg} {σ : Sorts}
theorem addM_some {d y : IdV} {b g : Nat} : ∀ {T : List KR} {i : Nat} {v : AV} {t : KR},posK (T.map KR.e) d = some (i,v) → T[i]? = some t → addM (T.map KR.m) d y = (T.set i ⟨d,b,g,t.l ++ [y]⟩).map KR.m
 | [],i,v,t,h,_ => by cases h
 | x :: T,i,v,t,h,ht => by
  have hc : posK ((x :: T).map KR.e) d = if sameId x.k d then some (0,x.v) else (posK (T.map KR.e) d).map fun p => (p.1 + 1,p.2) := rfl
  have ha : addM ((x :: T).map KR.m) d y = if sameId x.k d then (x.k,x.l ++ [y]) :: T.map KR.m else x.m :: addM (T.map KR.m) d y := rfl
  rw [hc] at h
  rw [ha]
  cases hs : sameId x.k d with
  | true =>
   rw [hs,if_pos rfl] at h
   cases h
   rw [List.getElem?_cons_zero] at ht
   cases ht
   rw [if_pos rfl,List.set_cons_zero,List.map_cons,sameId_eq hs]; rfl
  | false =>
   rw [hs,if_neg (by decide)] at h
   rw [if_neg (by decide)]
   cases hp : posK (T.map KR.e) d with
   | none => rw [hp] at h; cases h
   | some p =>
    rw [hp] at h
    cases h
    rw [List.getElem?_cons_succ] at ht
    rw [addM_some (b := b) (g := g) hp ht,List.set_cons_succ,List.map_cons]
theorem addM_none {d y : IdV} : ∀ {T : List KR},posK (T.map KR.e) d = none → addM (T.map KR.m) d y = T.map KR.m ++ [(d,[y])]
 | [],_ => rfl
 | x :: T,h => by
  have hc : posK ((x :: T).map KR.e) d = if sameId x.k d then some (0,x.v) else (posK (T.map KR.e) d).map fun p => (p.1 + 1,p.2) := rfl
  have ha : addM ((x :: T).map KR.m) d y = if sameId x.k d then (x.k,x.l ++ [y]) :: T.map KR.m else x.m :: addM (T.map KR.m) d y := rfl
  rw [hc] at h
  rw [ha]
  cases hs : sameId x.k d with
  | true => rw [hs,if_pos rfl] at h; cases h
  | false =>
   rw [hs,if_neg (by decide)] at h
   rw [if_neg (by decide),addM_none (by simpa using h)]; rfl
structure KB (base lo b1 m1 b2 m2 n : Nat) (R : List IdV) (M : List (IdV × List IdV)) (V : Heap) : Prop where
 p1 : blkRow V b1 0 1 0 = some [.map m1]
 r : V[m1]? = some (.map (entI (retE R)))
 p2 : blkRow V b2 0 1 0 = some [.map m2]
 o : ∃ T : List KR,V[m2]? = some (.map (entI (T.map KR.e))) ∧ T.map KR.m = M ∧ KsIs lo T V ∧ ∀ t ∈ T,t.l.length ≤ n
 ne : m1 ≠ m2
 low : base ≤ m1 ∧ base ≤ m2 ∧ base ≤ lo ∧ lo ≤ V.length ∧ b1 < lo ∧ m1 < lo ∧ b2 < lo ∧ m2 < lo
theorem blk1_of {X X' : Heap} {b : Nat} {r : List AV} (h : blkRow X b 0 1 0 = some r) (hk : ∀ blk,X[b]? = some blk → (∀ g rs,blk ≠ Blk.rows 33 g rs) → X'[b]? = some blk) : blkRow X' b 0 1 0 = some r := by
 unfold blkRow at h ⊢
 cases hb : X[b]? with
 | none => rw [hb] at h; cases h
 | some blk =>
  rw [hb] at h
  cases blk with
  | rows e g rs =>
   simp only at h
   split at h
   ·rename_i hc
    obtain ⟨rfl,rfl⟩ := hc
    rw [hk _ hb (by intro g' rs' h'; cases h')]
    simpa using h
   ·cases h
  | _ => cases h
theorem KB.keep {base lo b1 m1 b2 m2 n : Nat} {R : List IdV} {M : List (IdV × List IdV)} {V V' : Heap} (h : KB base lo b1 m1 b2 m2 n R M V) (hl : V.length ≤ V'.length) (h1 : ∀ b blk,b < lo → V[b]? = some blk → (b = b1 ∨ b = m1 ∨ b = b2 ∨ b = m2) → V'[b]? = some blk)
 (h2 : ∀ (b g : Nat) (rs : List (List AV)),V[b]? = some (Blk.rows 33 g rs) → V'[b]? = some (Blk.rows 33 g rs)) : KB base lo b1 m1 b2 m2 n R M V' := by
 obtain ⟨a1,a2,a3,⟨T,t1,t2,t3,t4⟩,a5,a6,a7,a8,a9,c1,c2,c3,c4⟩ := h
 exact ⟨blk1_of a1 fun blk hb _ => h1 _ _ c1 hb (.inl rfl),h1 _ _ c2 a2 (.inr (.inl rfl)),blk1_of a3 fun blk hb _ => h1 _ _ c3 hb (.inr (.inr (.inl rfl))),⟨T,h1 _ _ c4 t1 (.inr (.inr (.inr rfl))),t2,t3.keep h2,t4⟩,a5,a6,a7,a8,by omega,c1,c2,c3,c4⟩
theorem KB.app {base lo b1 m1 b2 m2 n : Nat} {R : List IdV} {M : List (IdV × List IdV)} {V : Heap} (h : KB base lo b1 m1 b2 m2 n R M V) (L : Heap) : KB base lo b1 m1 b2 m2 n R M (V ++ L) :=
 h.keep (by simp) (fun b blk _ hb _ => by rw [List.getElem?_append_left (List.getElem?_eq_some_iff.1 hb).1]; exact hb) fun b g rs hb => by rw [List.getElem?_append_left (List.getElem?_eq_some_iff.1 hb).1]; exact hb
set_option maxHeartbeats 2000000 in
theorem kill_op (S : Setting C) {base lo b1 m1 b2 m2 n : Nat} {R : List IdV} {M : List (IdV × List IdV)} {X V : Heap} {B : Blk} (h : KB base lo b1 m1 b2 m2 n R M X) (hV : V = X ++ [B]) (hn : n ≤ 2 ^ 32) (d y : IdV) :
 ∃ v i V1 sl V2 V3,mapEntryA Tryz.prog C base V 88 (.map m2) (.agg d.cells) = some (.tup [v,.int .i64 i],V1) ∧ appendA Tryz.prog base V1 #[34,34] v.denil (.lst [y.cells] true) = some (sl,V2) ∧
  entryStoreA base V2 (.map m2) (.int .i64 i) sl = some V3 ∧ KB base lo b1 m1 b2 m2 (n + 1) R (addM M d y) V3 ∧ (∀ b blk,b ≠ m2 → V[b]? = some blk → (∀ g rs,blk ≠ Blk.rows 33 g rs) ∨ b = X.length ∨ b < lo → V3[b]? = some blk) ∧ V.length ≤ V3.length := by
 obtain ⟨a1,a2,a3,⟨T,t1,t2,t3,t4⟩,a5,a6,a7,a8,a9,c1,c2,c3,c4⟩ := h
 have oldX : ∀ t ∈ T,t.b < X.length := fun t ht => (List.getElem?_eq_some_iff.1 (t3.1 t ht).2).1
 have up : ∀ {b : Nat} {blk : Blk},X[b]? = some blk → V[b]? = some blk := fun h => by rw [hV,List.getElem?_append_left (List.getElem?_eq_some_iff.1 h).1]; exact h
 replace a1 := by have := blk_app a1 [B]; rw [← hV] at this; exact this
 replace a3 := by have := blk_app a3 [B]; rw [← hV] at this; exact this
 replace a2 := up a2
 replace t1 := up t1
 replace t3 := t3.keep (X' := V) fun b g rs h => up h
 have hVl : V.length = X.length + 1 := by rw [hV]; simp
 replace a9 : lo ≤ V.length := by omega
 have hmV : m2 < V.length := (List.getElem?_eq_some_iff.1 t1).1
 have hf := find_I S d (T.map KR.e) 0
 have hy : ∀ r ∈ [y.cells],r.length = 33 := by simp
 cases hp : posK (T.map KR.e) d with
 | none =>
  rw [hp] at hf
  have hme : mapEntryA Tryz.prog C base V 88 (.map m2) (.agg d.cells) = some (.tup [.nils,.int .i64 (T.length : Int)],V.set m2 (.map (entI (T.map KR.e) ++ [(.agg d.cells,.nils)]))) := by
   simp only [mapEntryA,un88,keyOk_I S,t1,hf,a7,and_self,if_true,Option.map_none]
   simp [entI]
  obtain ⟨b,g,V2,ha,hb,hk,hd,hbb,hl⟩ := app_abs (P := Tryz.prog) (base := base) (ts := #[34,34]) (e := 27) (xd := .slice 27) (X := V.set m2 (.map (entI (T.map KR.e) ++ [(.agg d.cells,.nils)]))) (v := .nils) (rows := []) (x := .lst [y.cells] true) (ys := [y.cells])
   (by simp) (by simp) sz27 by27 (by simp) (by decide) (by simp; omega) (.inl ⟨rfl,rfl⟩) rfl hy (by simp) (by simp)
  have hbl : b = V.length := by
   rcases hd with ⟨_,_,hd⟩ | hd
   ·cases hd
   ·simpa using hd.2
  subst hbl
  have hm2 : V2[m2]? = some (.map (entI (T.map KR.e) ++ [(.agg d.cells,.nils)])) := by rw [hk m2 (by omega) (by simpa using hmV),List.getElem?_set_self hmV]
  have hm2l : m2 < V2.length := (List.getElem?_eq_some_iff.1 hm2).1
  have hl2 : V.length ≤ V2.length := by simpa using hl
  have hkeep : ∀ b blk,b ≠ m2 → V[b]? = some blk → (V2.set m2 (.map (entI ((T ++ [KR.mk d V.length g [y]]).map KR.e))))[b]? = some blk := fun b blk hbm hbv => by
   have hbl := (List.getElem?_eq_some_iff.1 hbv).1
   rw [List.getElem?_set_ne (Ne.symm hbm),hk b (by omega) (by simpa using hbl),List.getElem?_set_ne (Ne.symm hbm)]; exact hbv
  refine ⟨_,_,_,_,V2,V2.set m2 (.map (entI ((T ++ [KR.mk d V.length g [y]]).map KR.e))),hme,ha,?_,⟨blk1_of a1 fun blk hb _ => hkeep _ _ (fun h => by rw [h] at hb; rw [h] at a1; simp [blkRow,t1] at a1) hb,hkeep _ _ a5 a2,blk1_of a3 fun blk hb _ => hkeep _ _ (fun h => by rw [h] at a3; simp [blkRow,t1] at a3) hb,⟨T ++ [KR.mk d V.length g [y]],by rw [List.getElem?_set_self hm2l],?_,⟨?_,?_⟩,?_⟩,a5,a6,a7,a8,by simp; omega,c1,c2,c3,c4⟩,fun b blk hbm hbv _ => hkeep b blk hbm hbv,by simpa using hl2⟩
  ·simp only [entryStoreA,a7,hm2]
   simp [entI,KR.e,KR.v]
  ·rw [← t2,addM_none hp,List.map_append]; rfl
  ·intro t ht
   rcases List.mem_append.1 ht with ht | ht
   ·obtain ⟨h1,h2⟩ := t3.1 t ht
    exact ⟨h1,hkeep _ _ (fun h => by rw [h,t1] at h2; cases h2) h2⟩
   ·rw [List.mem_singleton] at ht
    subst ht
    refine ⟨a9,?_⟩
    rw [List.getElem?_set_ne (by show m2 ≠ V.length; omega)]; exact hb
  ·intro i j t u hi hj hij
   have old : ∀ (i : Nat) (t : KR),T[i]? = some t → t.b < V.length := fun i t ht => (List.getElem?_eq_some_iff.1 (t3.1 t (List.mem_of_getElem? ht)).2).1
   rcases Nat.lt_or_ge i T.length with hi' | hi' <;> rcases Nat.lt_or_ge j T.length with hj' | hj'
   ·rw [List.getElem?_append_left hi'] at hi; rw [List.getElem?_append_left hj'] at hj; exact t3.2 i j t u hi hj hij
   ·rw [List.getElem?_append_left hi'] at hi; rw [List.getElem?_append_right hj'] at hj
    have := old i t hi
    cases hjj : j - T.length with
    | zero => rw [hjj] at hj; cases hj; simp only; omega
    | succ q => rw [hjj] at hj; cases hj
   ·rw [List.getElem?_append_right hi'] at hi; rw [List.getElem?_append_left hj'] at hj
    have := old j u hj
    cases hii : i - T.length with
    | zero => rw [hii] at hi; cases hi; simp only; omega
    | succ q => rw [hii] at hi; cases hi
   ·have h1 := (List.getElem?_eq_some_iff.1 hi).1
    have h2 := (List.getElem?_eq_some_iff.1 hj).1
    simp at h1 h2; omega
  ·intro t ht
   rcases List.mem_append.1 ht with ht | ht
   ·have := t4 t ht; omega
   ·rw [List.mem_singleton] at ht; subst ht; simp
 | some p =>
  obtain ⟨i,v⟩ := p
  rw [hp] at hf
  have hTi := posK_some hp
  rw [List.getElem?_map] at hTi
  cases htt : T[i]? with
  | none => rw [htt] at hTi; cases hTi
  | some t =>
   rw [htt] at hTi
   have hte : t.e = (d,v) := by simpa using hTi
   have htk : t.k = d := congrArg Prod.fst hte
   have htv : t.v = v := congrArg Prod.snd hte
   have hil : i < T.length := (List.getElem?_eq_some_iff.1 htt).1
   have htm := List.mem_of_getElem? htt
   obtain ⟨s1,s2⟩ := t3.1 t htm
   have hent : (entI (T.map KR.e)).set i (.agg d.cells,v) = entI (T.map KR.e) := by
    have he : (entI (T.map KR.e))[i]? = some (.agg d.cells,v) := by rw [entI,List.getElem?_map,List.getElem?_map,htt]; simp [hte]
    obtain ⟨hi,he⟩ := List.getElem?_eq_some_iff.1 he
    rw [← he,List.set_getElem_self]
   have hme : mapEntryA Tryz.prog C base V 88 (.map m2) (.agg d.cells) = some (.tup [v,.int .i64 (i : Int)],V.set m2 (.map (entI (T.map KR.e)))) := by
    simp only [mapEntryA,un88,keyOk_I S,t1,hf,a7,and_self,if_true,Option.map_some,Nat.add_zero,hent]
   have hVs : V.set m2 (.map (entI (T.map KR.e))) = V := by
    obtain ⟨hi,he⟩ := List.getElem?_eq_some_iff.1 t1
    rw [← he,List.set_getElem_self]
   rw [hVs] at hme
   have hll := t4 t htm
   obtain ⟨b,g,V2,ha,hb,hk,hd,hbb,hl⟩ := app_abs (P := Tryz.prog) (base := base) (ts := #[34,34]) (e := 27) (xd := .slice 27) (X := V) (v := v) (rows := t.l.map IdV.cells) (x := .lst [y.cells] true) (ys := [y.cells])
    (by simp) (by simp) sz27 by27 (by simp) (by decide) (by omega) (.inr ⟨t.b,t.g,by rw [← htv,KR.v,List.length_map],s2,by omega⟩) rfl hy (by simp) (by simp; omega)
   have hbt : b = t.b := by
    rcases hd with ⟨_,_,hd⟩ | hd
    ·rw [← htv,KR.v] at hd; cases hd; rfl
    ·rw [← htv] at hd; cases hd.1
   subst hbt
   have hmb : m2 ≠ t.b := fun h => by rw [← h,t1] at s2; cases s2
   have hm2 : V2[m2]? = some (.map (entI (T.map KR.e))) := by rw [hk m2 hmb hmV]; exact t1
   have hm2l : m2 < V2.length := (List.getElem?_eq_some_iff.1 hm2).1
   have hes : (entI (T.map KR.e))[i]? = some (.agg d.cells,v) := by rw [entI,List.getElem?_map,List.getElem?_map,htt]; simp [hte]
   obtain ⟨t',ht'⟩ : ∃ t',t' = KR.mk d t.b g (t.l ++ [y]) := ⟨_,rfl⟩
   have htb : t'.b = t.b := by rw [ht']
   have hen : (entI (T.map KR.e)).set i (.agg d.cells,.sl t.b g 33 0 ((t.l.map IdV.cells).length + [y.cells].length)) = entI ((T.set i t').map KR.e) := by
    rw [ht',List.map_set,entI,entI,List.map_set]
    simp [KR.e,KR.v]
   have hkeep : ∀ b blk,b ≠ m2 → V[b]? = some blk → (∀ g rs,blk ≠ Blk.rows 33 g rs) ∨ b = X.length ∨ b < lo → (V2.set m2 (.map (entI ((T.set i t').map KR.e))))[b]? = some blk := fun b blk hbm hbv hne => by
    have hbl := (List.getElem?_eq_some_iff.1 hbv).1
    have hbt : b ≠ t.b := fun h => by
     rcases hne with hne | hne | hne
     ·rw [h,s2] at hbv; cases hbv; exact hne _ _ rfl
     ·have := oldX t htm; omega
     ·omega
    rw [List.getElem?_set_ne (Ne.symm hbm),hk b hbt hbl]; exact hbv
   have hne1 : b1 ≠ m2 := fun h => by rw [h] at a1; simp [blkRow,t1] at a1
   have hne2 : b2 ≠ m2 := fun h => by rw [h] at a3; simp [blkRow,t1] at a3
   refine ⟨_,_,_,_,V2,V2.set m2 (.map (entI ((T.set i t').map KR.e))),hme,ha,?_,⟨blk1_of a1 fun blk hb hn => hkeep _ _ hne1 hb (.inl hn),hkeep _ _ a5 a2 (.inl (by intro g rs h; cases h)),blk1_of a3 fun blk hb hn => hkeep _ _ hne2 hb (.inl hn),⟨T.set i t',by rw [List.getElem?_set_self hm2l],?_,⟨?_,?_⟩,?_⟩,a5,a6,a7,a8,by simp; omega,c1,c2,c3,c4⟩,fun b blk hbm hbv hn => hkeep b blk hbm hbv hn,by simpa using hl⟩
   ·simp only [entryStoreA,a7,hm2]
    rw [if_pos ⟨trivial,by omega⟩]
    simp only [Int.toNat_natCast,hes,hen]
   ·rw [← t2,addM_some (b := t.b) (g := g) hp htt,ht']
   ·intro u hu
    obtain ⟨j,hj,rfl⟩ := List.getElem_of_mem hu
    by_cases hij : i = j
    ·subst hij
     rw [List.getElem_set_self,htb]
     refine ⟨s1,?_⟩
     rw [List.getElem?_set_ne hmb,hb,ht']; simp
    ·rw [List.getElem_set_ne hij]
     have hjl : j < T.length := by simpa using hj
     obtain ⟨u1,u2⟩ := t3.1 T[j] (List.getElem_mem hjl)
     have hub := t3.2 j i T[j] t (List.getElem?_eq_getElem hjl) htt (Ne.symm hij)
     refine ⟨u1,?_⟩
     rw [List.getElem?_set_ne (fun h => by rw [← h,t1] at u2; cases u2),hk _ hub (List.getElem?_eq_some_iff.1 u2).1]; exact u2
   ·intro j1 j2 u w hj1 hj2 hne
    have get : ∀ (j : Nat) (u : KR),(T.set i t')[j]? = some u → ∃ u' : KR,T[j]? = some u' ∧ u'.b = u.b := by
     intro j u hj
     by_cases hij : i = j
     ·subst hij
      rw [List.getElem?_set_self hil] at hj
      cases hj
      exact ⟨t,htt,htb.symm⟩
     ·rw [List.getElem?_set_ne hij] at hj
      exact ⟨u,hj,rfl⟩
    obtain ⟨u',hu1,hu2⟩ := get j1 u hj1
    obtain ⟨w',hw1,hw2⟩ := get j2 w hj2
    rw [← hu2,← hw2]
    exact t3.2 j1 j2 u' w' hu1 hw1 hne
   ·intro u hu
    rcases List.mem_or_eq_of_mem_set hu with hu | rfl
    ·have := t4 u hu; omega
    ·rw [ht']; simp; omega
end Go.Proofs.Ev
