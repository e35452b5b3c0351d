/- Part 25 of the proof that quiltlaw38.BlameEvents returns true: no statement of its own. -/
import Derived.Test.YtckbkhfaahpanaaGreatDoorE24
import Derived.Test.YtckbkhfaahpanaaGreatDoorE7
set_option linter.all false
namespace Go.Proofs.Ev
open Go.Proofs
variable {C : Cfg} {σ : Sorts}
section
variable {P : Program} {base : Nat} (d : Option Tmp) (ty : TypeId) (pos : String) (af : Array Edge) (g : Option (Nat × Bool)) (s : Sl) (H : Heap) (K : AV → Heap → Prop)
@[simp ↓] theorem op_mapEntry (t : TypeId) (m k : Operand) : wpOp P C base ⟨d,.mapEntry t m k,ty,pos,af,g⟩ s H K = getW (mapEntryA P C base H t (valF s m) (valF s k)) K := Eq.trans rfl rfl
@[simp ↓] theorem op_entryStore (t : TypeId) (m k x : Operand) : wpOp P C base ⟨d,.entryStore t m k x,ty,pos,af,g⟩ s H K = getH (entryStoreA base H (valF s m) (valF s k) (valF s x)) K := by rw [← getW_retU]; rfl
end
abbrev KS := List IdV × List (IdV × List IdV)
def stepO (x : AtV) (a : KS) (d : IdV) : KS := (if x.kind = 7 then addI a.1 d else a.1,addM a.2 d x.id)
def stepK (a : KS) (x : AtV) : KS := if hasI a.1 x.id then a else x.over.foldl (stepO x) a
def killP (σ : Sorts) (s : List StoredV) : KS := (latA σ s (ordP σ s s.length []) (ordP σ s s.length []).length).foldl stepK ([],[])
theorem KB.more {base lo b1 m1 b2 m2 n n' : Nat} {R : List IdV} {M : List (IdV × List IdV)} {V : Heap} (h : KB base lo b1 m1 b2 m2 n R M V) (hn : n ≤ n') : KB base lo b1 m1 b2 m2 n' R M V := by
 obtain ⟨a1,a2,a3,⟨T,t1,t2,t3,t4⟩,a5,a6⟩ := h
 exact ⟨a1,a2,a3,⟨T,t1,t2,t3,fun t ht => Nat.le_trans (t4 t ht) hn⟩,a5,a6⟩
theorem KB.setO {base lo b1 m1 b2 m2 n b : Nat} {R : List IdV} {M : List (IdV × List IdV)} {V : Heap} {blk : Blk} (x : Blk) (h : KB base lo b1 m1 b2 m2 n R M V) (hb : V[b]? = some blk) (hn : ∀ g rs,blk ≠ Blk.rows 33 g rs) (hne : b ≠ b1 ∧ b ≠ m1 ∧ b ≠ b2 ∧ b ≠ m2) : KB base lo b1 m1 b2 m2 n R M (V.set b x) := by
 refine h.keep (by simp) (fun b' blk' _ hb' hc => ?_) fun b' g rs hb' => ?_
 ·rw [List.getElem?_set_ne (by omega)]; exact hb'
 ·rw [List.getElem?_set_ne]
  ·exact hb'
  ·rintro rfl
   rw [hb] at hb'
   exact hn _ _ (Option.some.inj hb')
theorem KB.ret {base lo b1 m1 b2 m2 n : Nat} {R : List IdV} {M : List (IdV × List IdV)} {V : Heap} (h : KB base lo b1 m1 b2 m2 n R M V) (d : IdV) : KB base lo b1 m1 b2 m2 n (addI R d) M (V.set m1 (.map (entI (retE (addI R d))))) := by
 obtain ⟨a1,a2,a3,⟨T,t1,t2,t3,t4⟩,a5,a6,a7,a8,a9,c1,c2,c3,c4⟩ := h
 have hm1 : m1 < V.length := (List.getElem?_eq_some_iff.1 a2).1
 refine ⟨blk_setm a1 a2,by rw [List.getElem?_set_self hm1],blk_setm a3 a2,⟨T,by rw [List.getElem?_set_ne a5]; exact t1,t2,t3.keep fun b g rs hb => ?_,t4⟩,a5,a6,a7,a8,by simpa using a9,c1,c2,c3,c4⟩
 rw [List.getElem?_set_ne]
 ·exact hb
 ·rintro rfl
  rw [a2] at hb; cases hb
def KI (H0 : Heap) (base lo b1 m1 b2 m2 bl bs : Nat) (LB : Blk) (v : AV) (l : List AtV) (V : Heap) : Prop :=
 KB base lo b1 m1 b2 m2 (2 ^ 10 * l.length) (l.foldl stepK ([],[])).1 (l.foldl stepK ([],[])).2 V ∧ V[bl]? = some LB ∧ blkRow V bs 0 1 0 = some [v] ∧ ∀ (b : Nat) (blk : Blk),H0[b]? = some blk → V[b]? = some blk
theorem kill_range (S : SettingT C σ) {s0 : List StoredV} {k : SK} (hs : SetGood s0) (h8 : s0.length ≤ 8) {H0 : Heap} {base lo b1 m1 b2 m2 bl bs nb po : Nat} {l1 : List AV} {ps : List Tmp} {asg bd : Code} {X : Heap} (hnb : nb = bl) (hpo : po = bs)
 (hd : b1 < bl ∧ m1 < bl ∧ b2 < bl ∧ m2 < bl ∧ bs < bl ∧ bl < lo ∧ H0.length ≤ bl)
 (hy : ∀ (LB BB : Blk) (_ : loopB l1 ps asg bd = LB) (_ : busyB l1 ps asg bd = BB) {l : List AtV} {V : Heap} (y : AtV),KI H0 base lo b1 m1 b2 m2 bl bs LB (slAV k (s0.map StoredV.cells)) l V → l.length ≤ 2 ^ 20 → y.over.length ≤ 2 ^ 10 →
  CallW Tryz.prog C base (.yld bl) [.agg y.cells] V fun v V' => v = .bool true ∧ KI H0 base lo b1 m1 b2 m2 bl bs LB (slAV k (s0.map StoredV.cells)) (l ++ [y]) V' ∧ ∀ b blk,lo ≤ b → V[b]? = some blk → (∀ g rs,blk ≠ Blk.rows 33 g rs) → V'[b]? = some blk)
 (h0 : KI H0 base lo b1 m1 b2 m2 bl bs (loopB l1 ps asg bd) (slAV k (s0.map StoredV.cells)) [] (X ++ [loopB l1 ps asg bd])) (K : AV → Heap → Prop)
 (hK : ∀ V,KB base lo b1 m1 b2 m2 (2 ^ 30) (killP σ s0).1 (killP σ s0).2 V → V[bl]? = some (loopB l1 ps asg bd) → (∀ (b : Nat) (blk : Blk),H0[b]? = some blk → V[b]? = some blk) → K (.tup []) V) :
 FuncW Tryz.prog C base 108 [.yld nb,.ptr po 0 1 0 0] (X ++ [loopB l1 ps asg bd]) K := by
 subst hnb; subst hpo
 have hLm : ∀ d ∈ ordP σ s0 s0.length [],hasS s0 d.d = true := by
  intro d hd
  rcases ordP_mem s0 _ _ d hd with h | ⟨x,hx,rfl⟩
  ·cases h
  ·unfold hasS; rw [List.find?_isSome]; exact ⟨x,hx,by simp⟩
 have hll : (ordP σ s0 s0.length []).length ≤ 8 := by have := ordP_len (σ := σ) s0 s0.length []; simp at this; omega
 refine latest_walk S (k := k) hs h8 (start := lo) (I := KI H0 base lo b1 m1 b2 m2 nb po (loopB l1 ps asg bd) (slAV k (s0.map StoredV.cells))) ⟨?_,?_,?_,?_,?_⟩ h0 K ?_
 ·rintro l V L ⟨h1,h2,h3,h4⟩
  exact ⟨h1.app L,by rw [List.getElem?_append_left (List.getElem?_eq_some_iff.1 h2).1]; exact h2,blk_app h3 L,fun b blk hb => by have := h4 b blk hb; rw [List.getElem?_append_left (List.getElem?_eq_some_iff.1 this).1]; exact this⟩
 ·rintro l V b blk x ⟨h1,h2,h3,h4⟩ hb hg hn
  refine ⟨h1.setO x hg hn (by omega),by rw [List.getElem?_set_ne (by omega)]; exact h2,?_,fun b' blk' hb' => by have := (List.getElem?_eq_some_iff.1 hb').1; rw [List.getElem?_set_ne (by omega)]; exact h4 b' blk' hb'⟩
  unfold blkRow at h3 ⊢
  rw [List.getElem?_set_ne (by omega)]; exact h3
 ·rintro l V ⟨h1,_,_⟩
  exact ⟨h1.low.2.2.1,h1.low.2.2.2.1⟩
 ·rintro l V ⟨_,_,h3,_⟩
  exact h3
 ·intro l V y h hl ho
  obtain ⟨V',⟨h1,h2⟩,e⟩ := CallW.ex (hy _ _ rfl rfl y h hl ho)
  exact ⟨V',h1,h2,e⟩
 ·rintro V ⟨h1,h2,_,h4⟩
  have hlat := latA_len (σ := σ) hs hLm (ordP σ s0 s0.length []).length
  exact hK V (h1.more (by omega)) h2 h4
set_option maxRecDepth 100000 in
set_option maxHeartbeats 8000000 in
theorem killers_ex (S : SettingT C σ) {s0 : List StoredV} {k : SK} (hs : SetGood s0) (h8 : s0.length ≤ 8) {base : Nat} {H : Heap} (hb : base ≤ H.length) :
 ∃ V T,V[H.length + 2]? = some (.map (entI (T.map KR.e))) ∧ T.map KR.m = (killP σ s0).2 ∧ KsIs (H.length + 6) T V ∧ (∀ t ∈ T,t.l.length ≤ 2 ^ 30) ∧ (∀ (b : Nat) (blk : Blk),H[b]? = some blk → V[b]? = some blk) ∧ ∀ K : AV → Heap → Prop,CallW Tryz.prog C base (.fn 29 []) [slAV k (s0.map StoredV.cells)] H K = K (.map (H.length + 2)) V := by
 suffices h : CallW Tryz.prog C base (.fn 29 []) [slAV k (s0.map StoredV.cells)] H (fun v' V => v' = .map (H.length + 2) ∧ ∃ T : List KR,V[H.length + 2]? = some (.map (entI (T.map KR.e))) ∧ T.map KR.m = (killP σ s0).2 ∧ KsIs (H.length + 6) T V ∧ (∀ t ∈ T,t.l.length ≤ 2 ^ 30) ∧ ∀ (b : Nat) (blk : Blk),H[b]? = some blk → V[b]? = some blk) by
  obtain ⟨n,v1,V,h1,rfl,T,h2,h3,h4,h5,h6⟩ := h
  exact ⟨V,T,h2,h3,h4,h5,h6,fun K => CallW.eq ⟨n,_,_,h1,rfl,rfl⟩ K⟩
 refine call_rule (S.plainT _ (by decide)).1 (S.plainT _ (by decide)).2 (func_rule Tryz.func29 rfl (S.prim _ (by decide)) (by simp) (by kernel_rfl) ?_)
 unfold Tryz.f29
 obtain ⟨v,hv⟩ : ∃ v,v = slAV k (s0.map StoredV.cells) := ⟨_,rfl⟩
 have hvl : v.leaf = true := by rw [hv]; simp
 have hvc : v.cells = [v] := by rw [hv]; simp
 have el := fun (X : Heap) (K : AV → Heap → Prop) => latest_eq S v hvl hvc (base := base) (H := X) K
 rw [← hv]
 refine cut (fun s X => s 0 = v ∧ X = H) ?_ ?_
 ·simp [argS]
 rintro s X ⟨q0,rfl⟩
 have hnm1 : AV.nilm.cells.length = 1 := rfl
 have hnm2 : AV.nilm.cells.tail = [] := rfl
 have hb1 : base ≤ X.length + 1 := by omega
 have hb3 : base ≤ X.length + 3 := by omega
 refine cut (fun s X' => s 0 = v ∧ s 3 = .ptr (X.length + 1) 0 1 0 0 ∧ X' = X ++ [.map [],.rows 1 0 [[.map X.length]]]) ?_ ?_
 ·simp [q0,storeA,hnm1,hnm2,hb1]
 rintro s X' ⟨q0,q3,rfl⟩
 refine cut (fun s X' => s 0 = v ∧ s 3 = .ptr (X.length + 1) 0 1 0 0 ∧ s 4 = .ptr (X.length + 3) 0 1 0 0 ∧ X' = X ++ [.map [],.rows 1 0 [[.map X.length]],.map [],.rows 1 0 [[.map (X.length + 2)]]]) ?_ ?_
 ·simp [q0,q3,storeA,hnm1,hnm2,hb3]
 rintro s X' ⟨q0,q3,q4,rfl⟩
 refine cut (fun s V => ∃ b2 : Nat,blkRow V b2 0 1 0 = some [.map (X.length + 2)] ∧ s 4 = .ptr b2 0 1 0 0 ∧ ∃ T : List KR,V[X.length + 2]? = some (.map (entI (T.map KR.e))) ∧ T.map KR.m = (killP σ s0).2 ∧ KsIs (X.length + 6) T V ∧ (∀ t ∈ T,t.l.length ≤ 2 ^ 30) ∧ ∀ (b : Nat) (blk : Blk),X[b]? = some blk → V[b]? = some blk) ?_ ?_
 rotate_left
 ·rintro s V ⟨b2,h1,q4,T,h2,h3,h4,h5,h6⟩
  simp [q4,h1]
  exact ⟨T,h2,h3,h4,h5,h6⟩
 refine cut (fun s X' => s 3 = .ptr (X.length + 1) 0 1 0 0 ∧ s 4 = .ptr (X.length + 3) 0 1 0 0 ∧ s 11 = .fn 108 [.ptr (X.length + 4) 0 1 0 0] ∧ X' = X ++ [.map [],.rows 1 0 [[.map X.length]],.map [],.rows 1 0 [[.map (X.length + 2)]],.rows 1 0 [[v]]]) ?_ ?_
 ·simp [q0,q3,q4,el]
 clear q0 q3 q4
 rintro s X' ⟨q3,q4,q11,rfl⟩
 rw [wp_block,wp_range]
 refine range_rule (f := 108) (caps := [.ptr (X.length + 4) 0 1 0 0]) (by simp [q11]) fun l1 hr1 => ?_
 refine kill_range S (k := k) (H0 := X) (base := base) (lo := X.length + 6) (b1 := X.length + 1) (m1 := X.length) (b2 := X.length + 3) (m2 := X.length + 2) (bl := X.length + 5) (bs := X.length + 4) hs h8 (by simp) rfl (by omega) ?_ ?_ _ ?_
 ·rw [← hv]
  rintro LB BB hLB hBB l V y ⟨hKB,hbl,hbs,hlo⟩ hl ho
  have hLr : ∀ sz g rs,LB ≠ .rows sz g rs := by intro sz g rs h; rw [← hLB] at h; cases h
  have hBr : ∀ sz g rs,BB ≠ .rows sz g rs := by intro sz g rs h; rw [← hBB] at h; cases h
  have hlow := hKB.low
  have hblV : X.length + 5 < V.length := (List.getElem?_eq_some_iff.1 hbl).1
  obtain ⟨W,hW⟩ : ∃ W,W = V.set (X.length + 5) BB := ⟨_,rfl⟩
  have hWl : W.length = V.length := by rw [hW]; simp
  have hblW : X.length + 5 < W.length := by omega
  have hWV : W.set (X.length + 5) LB = V := by
   obtain ⟨hi,he⟩ := List.getElem?_eq_some_iff.1 hbl
   rw [hW,List.set_set,← he,List.set_getElem_self]
  obtain ⟨a,ha⟩ : ∃ a,a = l.foldl stepK ([],[]) := ⟨_,rfl⟩
  have hfold : (l ++ [y]).foldl stepK ([],[]) = stepK a y := by rw [List.foldl_append,← ha]; rfl
  have hKW := hKB.setO BB hbl (hLr _) (by omega)
  rw [← hW] at hKW
  have hgW : W[X.length + 5]? = some BB := by rw [hW,List.getElem?_set_self hblV]
  have hbsW : blkRow W (X.length + 4) 0 1 0 = some [v] := by
   unfold blkRow at hbs ⊢
   rw [hW,List.getElem?_set_ne (by omega)]; exact hbs
  unfold KI
  rw [hfold]
  rw [← ha] at hKB hKW
  have hgl : ∀ M,(V ++ M)[X.length + 5]? = some LB := fun M => by rw [List.getElem?_append_left hblV]; exact hbl
  have hsl : ∀ M,(V ++ M).set (X.length + 5) BB = W ++ M := fun M => by rw [hW]; exact List.set_append_left _ _ hblV
  have hgWM : ∀ M,(W ++ M)[X.length + 5]? = some BB := fun M => by rw [List.getElem?_append_left hblW]; exact hgW
  have hsWM : ∀ M,(W ++ M).set (X.length + 5) LB = V ++ M := fun M => by rw [List.set_append_left _ _ hblW,hWV]
  have hb1r : ∀ M,blkRow (W ++ M) (X.length + 1) 0 1 0 = some [.map X.length] := fun M => (hKW.app M).p1
  have elk := fun M => look_ret S.toSetting (hKW.app M).r y.id
  have fy : ∀ M,blkRow (W ++ Blk.rows 172 0 [y.cells] :: M) V.length 0 172 0 = some y.cells := fun M => by rw [← hWl]; simp
  have hbV : base ≤ V.length := by omega
  have hkW : ∀ b blk,X.length + 6 ≤ b → V[b]? = some blk → W[b]? = some blk := fun b blk hb h => by rw [hW,List.getElem?_set_ne (by omega)]; exact h
  refine yield_rule hr1 (hget := by rw [hLB]; exact hbl) (by omega) rfl (by decide) (by kernel_rfl) (by kernel_rfl) ?_
  rw [hLB,hBB]
  cases hh : hasI a.1 y.id with
  | true =>
   have hst : stepK a y = a := by rw [stepK,hh,if_pos rfl]
   rw [hst]
   simp [q3,storeA,fillA,hgl,hsl,hbV,hb1r,fy,elk,hh,hgWM,hsWM,hLB]
   refine ⟨rfl,⟨(hKB.app _).more (by simp; omega),blk_app hbs _,fun b blk hb => by have := hlo b blk hb; rw [List.getElem?_append_left (List.getElem?_eq_some_iff.1 this).1]; exact this⟩,fun b blk hb hg _ => by rw [List.getElem?_append_left (List.getElem?_eq_some_iff.1 hg).1]; exact hg⟩
  | false =>
   have hst : stepK a y = y.over.foldl (stepO y) a := by rw [stepK,hh,if_neg (by decide)]
   rw [hst]
   simp [q3,q4,storeA,fillA,hgl,hsl,hbV,hb1r,fy,elk,hh]
   refine loop_count y.over.length (fun j s Z => s 3 = .ptr (X.length + 1) 0 1 0 0 ∧ s 4 = .ptr (X.length + 3) 0 1 0 0 ∧ s 5 = .ptr V.length 0 172 0 0 ∧ s 18 = slAV y.overK (y.over.map IdV.cells) ∧ s 19 = .int .i64 y.over.length ∧ s 20 = .int .i64 j ∧
    KB base (X.length + 6) (X.length + 1) X.length (X.length + 3) (X.length + 2) (2 ^ 10 * l.length + j) ((y.over.take j).foldl (stepO y) a).1 ((y.over.take j).foldl (stepO y) a).2 Z ∧ Z[X.length + 5]? = some BB ∧ Z[V.length]? = some (.rows 172 0 [y.cells]) ∧ blkRow Z (X.length + 4) 0 1 0 = some [v] ∧
    (∀ (b : Nat) (blk : Blk),X[b]? = some blk → Z[b]? = some blk) ∧ ∀ b blk,X.length + 6 ≤ b → V[b]? = some blk → (∀ g rs,blk ≠ Blk.rows 33 g rs) → Z[b]? = some blk) ?_ ?_
   ·refine ⟨q3,q4,rfl,rfl,rfl,rfl,hKW.app _,hgWM _,by rw [← hWl]; simp,blk_app hbsW _,fun b blk hb => by have h1 := (List.getElem?_eq_some_iff.1 hb).1; have h2 := hlo b blk hb; rw [List.getElem?_append_left (by omega),hW,List.getElem?_set_ne (by omega)]; exact h2,fun b blk hb hg _ => by rw [List.getElem?_append_left (by have := (List.getElem?_eq_some_iff.1 hg).1; omega)]; exact hkW b blk hb hg⟩
   rintro j s Z ⟨q3,q4,q5,q18,q19,q20,hKZ,hgZ,hyZ,hbsZ,hloZ,hkZ⟩ hj
   by_cases hjl : j < y.over.length
   rotate_left
   ·have h' : j = y.over.length := by omega
    subst h'
    rw [List.take_length] at hKZ
    have hZl : X.length + 5 < Z.length := (List.getElem?_eq_some_iff.1 hgZ).1
    simp [q3,q4,q5,q18,q19,q20,hgZ,hLB]
    refine ⟨rfl,⟨(hKZ.setO LB hgZ (hBr _) (by omega)).more (by simp; omega),by rw [List.getElem?_set_self hZl],?_,fun b blk hb => by have h1 := (List.getElem?_eq_some_iff.1 hb).1; rw [List.getElem?_set_ne (by omega)]; exact hloZ b blk hb⟩,fun b blk hb hg hn => by rw [List.getElem?_set_ne (by omega)]; exact hkZ b blk hb hg hn⟩
    unfold blkRow at hbsZ ⊢
    rw [List.getElem?_set_ne (by omega)]; exact hbsZ
   obtain ⟨z,hz⟩ : ∃ z,z = y.over[j] := ⟨_,rfl⟩
   obtain ⟨vv,i,V1,sl,V2,V3,e1,e2,e3,hK3,hk3,hl3⟩ := kill_op S.toSetting hKZ (B := .rows 33 0 [z.cells]) rfl (by omega) z y.id
   have hfj : (y.over.take (j + 1)).foldl (stepO y) a = stepO y ((y.over.take j).foldl (stepO y) a) z := by
    rw [List.take_add_one,List.getElem?_eq_getElem hjl,List.foldl_append,hz]; rfl
   obtain ⟨ac,hac⟩ : ∃ ac,ac = (y.over.take j).foldl (stepO y) a := ⟨_,rfl⟩
   rw [← hac] at hKZ hK3 hfj
   have hyZM : ∀ M,blkRow (Z ++ M) V.length 0 172 0 = some y.cells := fun M => blk_app (by simp [blkRow,hyZ]) M
   have hp2 : ∀ M,blkRow (Z ++ M) (X.length + 3) 0 1 0 = some [.map (X.length + 2)] := fun M => (hKZ.app M).p2
   have hZlen : V.length < Z.length := (List.getElem?_eq_some_iff.1 hyZ).1
   have hup : ∀ {b : Nat} {blk : Blk},Z[b]? = some blk → (Z ++ [Blk.rows 33 0 [z.cells]])[b]? = some blk := fun h => by rw [List.getElem?_append_left (List.getElem?_eq_some_iff.1 h).1]; exact h
   have hy3 : V3[V.length]? = some (.rows 172 0 [y.cells]) := hk3 _ _ (by omega) (hup hyZ) (.inl (by intro g rs h; cases h))
   have hz3 : V3[Z.length]? = some (.rows 33 0 [z.cells]) := hk3 _ _ (by omega) (by simp) (.inr (.inl rfl))
   have hg3 : V3[X.length + 5]? = some BB := hk3 _ _ (by omega) (hup hgZ) (.inl (hBr _))
   have hbs3 : blkRow V3 (X.length + 4) 0 1 0 = some [v] := blk1_of hbsZ fun blk hb hn => hk3 _ _ (by omega) (hup hb) (.inl hn)
   have hkk3 : ∀ b blk,X.length + 6 ≤ b → V[b]? = some blk → (∀ g rs,blk ≠ Blk.rows 33 g rs) → V3[b]? = some blk := fun b blk hb hg hn => hk3 _ _ (by omega) (hup (hkZ b blk hb hg hn)) (.inl hn)
   have hlo3 : ∀ (b : Nat) (blk : Blk),X[b]? = some blk → V3[b]? = some blk := fun b blk hb => hk3 _ _ (by have := (List.getElem?_eq_some_iff.1 hb).1; omega) (hup (hloZ b blk hb)) (.inr (.inr (by have := (List.getElem?_eq_some_iff.1 hb).1; omega)))
   have hyr3 : blkRow V3 V.length 0 172 0 = some y.cells := by simp [blkRow,hy3]
   have hzr3 : blkRow V3 Z.length 0 33 0 = some z.cells := by simp [blkRow,hz3]
   have hp13 := hK3.p1
   have hbZ : base ≤ Z.length := by omega
   have eu := upd_ret S.toSetting (base := base) hK3.low.1 hK3.r z
   by_cases hk7 : y.kind = 7
   ·simp [q3,q4,q5,q18,q19,q20,hjl,← hz,storeA,fillA,hbZ,hp2,hyZM,buildSliceA,fillRows,e1,e2,e3,hyr3,hzr3,hp13,hk7,eu,wrap_succ hjl (by omega)]
    have hso : stepO y ac z = (addI ac.1 z,addM ac.2 z y.id) := by simp [stepO,hk7]
    rw [hfj,hso]
    refine ⟨(hK3.ret z).more (by omega),hg3,by rw [List.getElem?_set_ne (by omega)]; exact hy3,?_,fun b blk hb => by have h1 := (List.getElem?_eq_some_iff.1 hb).1; rw [List.getElem?_set_ne (by omega)]; exact hlo3 b blk hb,fun b blk hb hg hn => by rw [List.getElem?_set_ne (by omega)]; exact hkk3 b blk hb hg hn⟩
    unfold blkRow at hbs3 ⊢
    rw [List.getElem?_set_ne (by omega)]; exact hbs3
   ·simp [q3,q4,q5,q18,q19,q20,hjl,← hz,storeA,fillA,hbZ,hp2,hyZM,buildSliceA,fillRows,e1,e2,e3,hyr3,hzr3,hp13,hk7,wrap_succ hjl (by omega)]
    have hso : stepO y ac z = (ac.1,addM ac.2 z y.id) := by simp [stepO,hk7]
    rw [hfj,hso]
    exact ⟨hK3.more (by omega),hg3,hy3,hbs3,hlo3,hkk3⟩
 ·rw [← hv]
  refine ⟨⟨by simp [blkRow],by simp [entI,retE],by simp [blkRow],⟨[],by simp [entI],rfl,⟨by simp,by simp⟩,by simp⟩,by omega,by simp; omega⟩,by simp,by simp [blkRow],fun b blk hb => by have h1 := (List.getElem?_eq_some_iff.1 hb).1; rw [List.append_assoc,List.getElem?_append_left h1]; exact hb⟩
 ·intro V hKB hbl hlo
  have hlen : (X ++ [Blk.map [],.rows 1 0 [[.map X.length]],.map [],.rows 1 0 [[.map (X.length + 2)]],.rows 1 0 [[v]]]).length = X.length + 5 := by simp
  rw [hlen,afterR_loop hbl]
  have hKB2 := hKB.setO .dead hbl (by intro g rs h; cases h) (by omega)
  obtain ⟨T,h2,h3,h4,h5⟩ := hKB2.o
  simp
  exact ⟨_,hKB2.p2,q4,T,by simpa using h2,h3,h4,h5,fun b blk hb => by have h1 := (List.getElem?_eq_some_iff.1 hb).1; rw [List.getElem?_set_ne (by omega)]; exact hlo b blk hb⟩
end Go.Proofs.Ev
namespace Go.Proofs.Ev
variable {P : Program} {C : Cfg} {N base : Nat}
def consOk (P : Program) (ops : Array Oper) (i p : Nat) : Bool := (List.range ops.size).all fun k => decide (clsS P ops k < 2) || ((!befS ops k i || decide (k < p)) && (!befS ops i k || decide (p ≤ k)))
def consL (P : Program) (ops : Array Oper) : List (Nat × Nat) := (List.range ops.size).flatMap fun i => if clsS P ops i == 1 then ((List.range (ops.size + 1)).filter fun p => consOk P ops i p).map fun p => (i,p) else []
def hAt (acc : List (Sl × Heap × AV)) (H : Heap) (p : Nat) : Heap := match acc[p]? with | some x => x.2.1 | none => H
def chkV (P : Program) (C : Cfg) (base : Nat) (ops : Array Oper) (acc : List (Sl × Heap × AV)) (H : Heap) (ip : Nat × Nat) : Prop :=
 match acc[ip.1]?,ops[ip.1]? with
 | some x,some o => wpStep P C base ops o x.1 (hAt acc H ip.2) fun v _ => v = x.2.2
 | _,_ => False
def wpOpsV (P : Program) (C : Cfg) (N base : Nat) (ops : Array Oper) : Nat → List Oper → Sl → Heap → List (Sl × Heap × AV) → (Sl → Heap → Prop) → Prop
 | _,[],s,H,acc,Q => Q s H ∧ ∀ ip ∈ consL P ops,chkV P C base ops acc H ip
 | i,o :: l,s,H,acc,Q => dstOk N o.dst ∧ (clsS P ops i < 2 ∨ wantedF ops s o = some true) ∧ wpStep P C base ops o s H fun v H' => wpOpsV P C N base ops (i + 1) l (putF s o.dst v) H' (acc ++ [(s,H,v)]) Q
theorem runV {ops : Array Oper} : ∀ {os : List Oper} {i : Nat} {s : Sl} {H : Heap} {acc : List (Sl × Heap × AV)} {Q : Sl → Heap → Prop},wpOpsV P C N base ops i os s H acc Q → acc.length = i → ∀ {l : List AV},Rep N l s →
 ∃ n tr l' s' H' accF,runT P ops (fun o s H => stepA P C n base ops o s H) os l H = some (tr,l',H') ∧ Rep N l' s' ∧ Q s' H' ∧ accF.length = i + os.length ∧ (∀ (j : Nat) (x : Sl × Heap × AV),acc[j]? = some x → accF[j]? = some x) ∧
  (∀ (k : Nat) (o : Oper),os[k]? = some o → ∃ (x : Sl × Heap × AV) (lk : List AV),accF[i + k]? = some x ∧ Rep N lk x.1 ∧ (tr.getD k default).s = cutS (looks ops o) lk ∧ (tr.getD k default).h = x.2.1 ∧ (tr.getD k default).v = x.2.2 ∧ (tr.getD k default).c = clsA P ops lk o ∧ (clsS P ops (i + k) < 2 ∨ wantedA ops lk o = some true)) ∧
  ∀ ip ∈ consL P ops,chkV P C base ops accF H' ip
 | [],i,s,H,acc,Q,h,hl,l,hr => ⟨0,[],l,s,H,acc,rfl,hr,h.1,by simpa using hl,fun _ _ h => h,fun k o h => by simp at h,h.2⟩
 | o :: os,i,s,H,acc,Q,h,hl,l,hr => by
  unfold wpOpsV at h
  obtain ⟨hd,hw,h⟩ := h
  obtain ⟨n,v,H1,h1,h3⟩ := wpStep_sound h hr
  obtain ⟨m,tr,l',s',H',accF,h4,h5,h6,h7,h8,h9,h10⟩ := runV h3 (by simp [hl]) (hr.put hd v)
  have e1 : stepA P C (n + m) base ops o (cutS (looks ops o) l) H = some (v,H1) := by rw [step_cut]; exact stepA_mono (Nat.le_add_right n m) h1
  have e2 := runT_mono (P := P) (g := fun o s H => stepA P C (n + m) base ops o s H) (fun o s H r h => stepA_mono (Nat.le_add_left m n) h) h4
  refine ⟨n + m,⟨cutS (looks ops o) l,H,v,clsA P ops (cutS (looks ops o) l) o⟩ :: tr,l',s',H',accF,?_,h5,h6,by simp at h7 ⊢; omega,fun j x hj => h8 j x (by rw [List.getElem?_append_left (List.getElem?_eq_some_iff.1 hj).1]; exact hj),?_,h10⟩
  ·simp only [runT]
   rw [e1]
   simp only
   rw [e2]
   rfl
  ·intro k o' hk
   cases k with
   | zero =>
    simp only [List.getElem?_cons_zero,Option.some.injEq] at hk
    subst hk
    refine ⟨(s,H,v),l,h8 _ _ (by rw [Nat.add_zero,← hl]; simp),hr,rfl,rfl,rfl,by rw [cls_cut]; rfl,?_⟩
    rcases hw with hw | hw
    ·exact .inl hw
    ·exact .inr (hr.wanted hw)
   | succ k =>
    have := h9 k o' (by simpa using hk)
    rw [show i + 1 + k = i + (k + 1) by omega] at this
    exact this
theorem fuel_all {ops : Array Oper} {acc : List (Sl × Heap × AV)} {H : Heap} : ∀ {L : List (Nat × Nat)},(∀ ip ∈ L,chkV P C base ops acc H ip) → ∃ m,∀ ip ∈ L,∃ x o,acc[ip.1]? = some x ∧ ops[ip.1]? = some o ∧ ∀ lk,Rep N lk x.1 → ∃ Hx,(∃ m',m' ≤ m ∧ stepA P C m' base ops o lk (hAt acc H ip.2) = some (x.2.2,Hx)) ∨ ¬ Rep N lk x.1 := by
 intro L
 induction L with
 | nil => intro _; exact ⟨0,fun ip h => by cases h⟩
 | cons ip L ih =>
  intro h
  obtain ⟨m,hm⟩ := ih fun q hq => h q (by simp [hq])
  have h0 := h ip (by simp)
  unfold chkV at h0
  cases hx : acc[ip.1]? with
  | none => rw [hx] at h0; exact h0.elim
  | some x =>
   cases ho : ops[ip.1]? with
   | none => rw [hx,ho] at h0; exact h0.elim
   | some o =>
    rw [hx,ho] at h0
    simp only at h0
    by_cases hr : ∃ lk,Rep N lk x.1
    ·obtain ⟨lk,hr⟩ := hr
     obtain ⟨n,v,Hx,h1,h2⟩ := wpStep_sound h0 hr
     refine ⟨max m n,fun q hq => ?_⟩
     rcases List.mem_cons.1 hq with rfl | hq
     ·refine ⟨x,o,hx,ho,fun lk' hr' => ⟨Hx,.inl ⟨n,Nat.le_max_right m n,?_⟩⟩⟩
      have : lk' = lk := by
       refine List.ext_getElem? fun t => ?_
       by_cases ht : t < N
       ·have a1 := hr'.2 t
        have a2 := hr.2 t
        have b1 : t < lk'.length := by rw [hr'.1]; exact ht
        have b2 : t < lk.length := by rw [hr.1]; exact ht
        rw [List.getD_eq_getElem?_getD,List.getElem?_eq_getElem b1] at a1
        rw [List.getD_eq_getElem?_getD,List.getElem?_eq_getElem b2] at a2
        rw [List.getElem?_eq_getElem b1,List.getElem?_eq_getElem b2]
        simp only [Option.getD_some] at a1 a2
        rw [a1,a2]
       ·rw [List.getElem?_eq_none (by rw [hr'.1]; omega),List.getElem?_eq_none (by rw [hr.1]; omega)]
      rw [this,← h2]; exact h1
     ·obtain ⟨x',o',a1,a2,a3⟩ := hm q hq
      refine ⟨x',o',a1,a2,fun lk' hr' => ?_⟩
      obtain ⟨Hx',h⟩ := a3 lk' hr'
      refine ⟨Hx',?_⟩
      rcases h with ⟨m',hm',h⟩ | h
      ·exact .inl ⟨m',Nat.le_trans hm' (Nat.le_max_left m n),h⟩
      ·exact .inr h
    ·refine ⟨m,fun q hq => ?_⟩
     rcases List.mem_cons.1 hq with rfl | hq
     ·exact ⟨x,o,hx,ho,fun lk' hr' => absurd ⟨lk',hr'⟩ hr⟩
     ·exact hm q hq
theorem draw_ruleV {ops : Array Oper} {s : Sl} {H : Heap} {Q : Sl → Heap → Prop} (hst : statB P ops = true) (h : wpOpsV P C N base ops 0 ops.toList s H [] Q) : DrawW P C N base ops s H Q := by
 intro l hr
 obtain ⟨n0,tr,l',s',H',accF,h1,h2,h3,h4,_,h5,h6⟩ := runV h rfl hr
 obtain ⟨m,hm⟩ := fuel_all (N := N) h6
 have h1' := runT_mono (P := P) (g := fun o s H => stepA P C (n0 + m) base ops o s H) (fun o s H r h => stepA_mono (Nat.le_add_right n0 m) h) h1
 refine ⟨n0 + m,tr,l',s',H',h1',?_,h2,h3⟩
 obtain ⟨hlen,_⟩ := runT_spec _ _ _ _ _ _ h1
 have hsz : ops.toList.length = ops.size := by simp
 have hn : tr.length = ops.size := by rw [hlen,hsz]
 have hget : ∀ i o,ops[i]? = some o → ops.toList[i]? = some o := fun i o h => by rw [Array.getElem?_toList]; exact h
 have hop : ∀ i,i < ops.size → ∃ o,ops[i]? = some o := fun i hi => ⟨_,Array.getElem?_eq_getElem hi⟩
 have hcls : ∀ i,i < ops.size → (tr.getD i default).c = 0 ∨ (tr.getD i default).c = clsS P ops i := by
  intro i hi
  obtain ⟨o,ho⟩ := hop i hi
  obtain ⟨x,lk,_,_,_,_,_,hc,_⟩ := h5 i o (hget i o ho)
  rw [hc]
  unfold clsA clsS
  rw [ho]
  split
  ·exact .inr rfl
  ·exact .inl rfl
 have hturn : ∀ i,i < ops.size → ¬ clsS P ops i < 2 → (tr.getD i default).c = clsS P ops i := by
  intro i hi hc
  obtain ⟨o,ho⟩ := hop i hi
  obtain ⟨x,lk,_,_,_,_,_,hc',hw⟩ := h5 i o (hget i o ho)
  rw [Nat.zero_add] at hw
  rcases hw with hw | hw
  ·exact absurd hw hc
  ·rw [hc']; unfold clsA clsS; rw [ho,hw]
 have hin : ∀ k,k ∈ (List.range tr.length).filter (fun i => decide (2 ≤ (tr.getD i default).c)) ↔ k < ops.size ∧ ¬ clsS P ops k < 2 := by
  intro k
  rw [List.mem_filter,List.mem_range,decide_eq_true_eq,hn]
  constructor
  ·rintro ⟨a,b⟩
   refine ⟨a,fun h => ?_⟩
   rcases hcls k a with h' | h' <;> omega
  ·rintro ⟨a,b⟩
   refine ⟨a,?_⟩
   rw [hturn k a b]; omega
 unfold statB at hst
 rw [List.all_eq_true] at hst
 unfold drawOkT drawOk
 simp only
 rw [List.all_eq_true]
 intro i hi
 have hi : i < ops.size := by rw [← hn]; exact List.mem_range.1 hi
 obtain ⟨o,ho⟩ := hop i hi
 have h5' := hst i (List.mem_range.2 hi)
 rw [ho] at h5' ⊢
 simp only [Bool.and_eq_true] at h5' ⊢
 obtain ⟨⟨⟨h6',h7⟩,h8⟩,h9⟩ := h5'
 refine ⟨⟨⟨⟨h6',?_⟩,?_⟩,?_⟩,?_⟩
 ·rw [hn]
  rw [List.all_eq_true] at h7 ⊢
  intro k hk
  have h10 := h7 k hk
  rw [Bool.or_eq_true] at h10 ⊢
  rcases h10 with h10 | h10
  ·exact .inl h10
  ·right
   simp only [Option.bind_some] at h10 ⊢
   exact h10
 ·rcases hcls i hi with h' | h'
  ·simp only [h']; rfl
  ·simp only [h']
   rw [Bool.or_eq_true] at h8 ⊢
   rcases h8 with h8 | h8
   ·exact .inl h8
   ·right
    rw [List.all_eq_true] at h8 ⊢
    intro k hk
    rw [Bool.or_eq_true,decide_eq_true_eq]
    by_cases hik : i ≤ k
    ·exact .inl hik
    ·right
     have h11 := h8 k (List.mem_range.2 (by omega))
     rw [Bool.or_eq_true,decide_eq_true_eq] at h11
     rcases h11 with h11 | h11
     ·exact absurd h11 ((hin k).1 hk).2
     ·exact h11
 ·rcases hcls i hi with h' | h'
  ·simp only [h']; rfl
  ·simp only [h',hn]
   rw [Bool.or_eq_true] at h9 ⊢
   rcases h9 with h9 | h9
   ·exact .inl h9
   ·right
    rw [List.all_eq_true] at h9 ⊢
    intro j hj
    have h10 := h9 j hj
    rw [Bool.or_eq_true] at h10 ⊢
    rcases h10 with h10 | h10
    ·exact .inl h10
    ·right
     rw [List.all_eq_true] at h10 ⊢
     intro k hk
     rw [Bool.or_eq_true,decide_eq_true_eq]
     by_cases hik : i ≤ k
     ·exact .inl hik
     ·right
      have h11 := h10 k (List.mem_range.2 (by omega))
      rw [Bool.or_eq_true,decide_eq_true_eq] at h11
      rcases h11 with h11 | h11
      ·exact absurd h11 ((hin k).1 (by rw [hn]; exact hk)).2
      ·exact h11
 ·rw [Bool.or_eq_true]
  by_cases hc1 : (tr.getD i default).c = 1
  ·right
   have hs1 : clsS P ops i = 1 := by rcases hcls i hi with h' | h' <;> omega
   rw [List.all_eq_true]
   intro p hp
   rw [Bool.or_eq_true]
   by_cases hcons : ((List.range tr.length).filter fun i => decide (2 ≤ (tr.getD i default).c)).all (fun k => (!befS ops k i || decide (k < p)) && (!befS ops i k || decide (p ≤ k))) = true
   ·right
    rw [List.all_eq_true] at hcons
    have hp' : p ≤ ops.size := by
     rcases List.mem_append.1 hp with h | h
     ·exact Nat.le_of_lt ((hin p).1 h).1
     ·simp at h; omega
    have hcl : (i,p) ∈ consL P ops := by
     unfold consL
     rw [List.mem_flatMap]
     refine ⟨i,List.mem_range.2 hi,?_⟩
     rw [if_pos (by simp [hs1]),List.mem_map]
     refine ⟨p,?_,rfl⟩
     rw [List.mem_filter,List.mem_range]
     refine ⟨by omega,?_⟩
     unfold consOk
     rw [List.all_eq_true]
     intro k hk
     rw [Bool.or_eq_true,decide_eq_true_eq]
     by_cases hk2 : clsS P ops k < 2
     ·exact .inl hk2
     ·exact .inr (hcons k ((hin k).2 ⟨List.mem_range.1 hk,hk2⟩))
    obtain ⟨x,o',a1,a2,a3⟩ := hm _ hcl
    obtain ⟨x2,lk,b1,b2,b3,b4,b5,_⟩ := h5 i o (hget i o ho)
    rw [Nat.zero_add] at b1
    simp only at a1 a2
    rw [b1] at a1; cases a1
    rw [ho] at a2; cases a2
    obtain ⟨Hx,h⟩ := a3 lk b2
    rcases h with ⟨m',hm',h⟩ | h
    ·have hheap : (if p < tr.length then (tr.getD p default).h else H') = hAt accF H' p := by
      unfold hAt
      by_cases hpt : p < tr.length
      ·rw [if_pos hpt]
       obtain ⟨o2,ho2⟩ := hop p (by omega)
       obtain ⟨x3,_,c1,_,_,c4,_⟩ := h5 p o2 (hget p o2 ho2)
       rw [Nat.zero_add] at c1
       rw [c1]; exact c4
      ·rw [if_neg hpt,List.getElem?_eq_none (by omega)]
     rw [hheap,b3,b5]
     have := stepA_mono (m := n0 + m) (by omega) h
     rw [step_cut,this]
     exact beq_refl _
    ·exact absurd b2 h
   ·left
    simp only [Bool.not_eq_true] at hcons
    simp only [befS] at hcons
    rw [Bool.not_eq_true']
    exact hcons
  ·left
   rw [bne_iff_ne]; exact hc1
def SemC (P : Program) (C : Cfg) (N base : Nat) (c : Code) (s : Sl) (H : Heap) (Q : Post) : Prop := ∀ l,Rep N l s → ∃ n e l' s' H',codeA P C n base c l H = some (e,l',H') ∧ Rep N l' s' ∧ Q e s' H'
theorem sem_wp {c : Code} {s : Sl} {H : Heap} {Q : Post} (hst : statC P c = true) (h : wpC P C N base c s H Q) : SemC P C N base c s H Q := fun _ hr => wpC_sound hst h hr
theorem sem_cut {a b : Code} (M : Sl → Heap → Prop) {s : Sl} {H : Heap} {Q : Post} (h1 : SemC P C N base a s H (cutQ M Q)) (h2 : ∀ s H,M s H → SemC P C N base b s H Q) : SemC P C N base (.seq a b) s H Q := by
 intro l hr
 obtain ⟨n,e,l',s',H',h3,h4,h5⟩ := h1 l hr
 cases e with
 | normal =>
  obtain ⟨m,e,l2,s2,H2,h6,h7,h8⟩ := h2 s' H' h5 l' h4
  exact ⟨n + m + 1,e,l2,s2,H2,by simp only [codeA]; rw [codeA_mono (Nat.le_add_right n m) h3]; exact codeA_mono (Nat.le_add_left m n) h6,h7,h8⟩
 | exit i => exact ⟨n + 1,.exit i,l',s',H',by simp only [codeA]; rw [h3],h4,h5⟩
 | ret => exact ⟨n + 1,.ret,l',s',H',by simp only [codeA]; rw [h3],h4,h5⟩
theorem sem_draw {id : Nat} {ops : Array Oper} {s : Sl} {H : Heap} {Q : Post} (hst : statB P ops = true) (h : wpOpsV P C N base ops 0 ops.toList s H [] (Q .normal)) : SemC P C N base (.region id ops true) s H Q := by
 intro l hr
 obtain ⟨n,tr,l',s',H',h1,h2,h3,h4⟩ := draw_ruleV hst h l hr
 exact ⟨n + 1,.normal,l',s',H',by simp only [codeA]; rw [h1]; simp only; rw [if_pos h2],h3,h4⟩
theorem func_sem {f : FuncId} {fn : Func} {c : Code} {args : List AV} {H : Heap} {K : AV → Heap → Prop} (hf : P.funcs[f]? = some fn) (hc : fn.body = some c) (hp : C.prim f = none) (hn : args.length ≤ fn.ntmps)
 (h : SemC P C fn.ntmps base c (argS args fn.ntmps) H (retQ P fn.results.toList K)) : FuncW P C base f args H K := by
 obtain ⟨n,e,l',s',H',h1,h2,h3⟩ := h _ (argS_rep hn)
 unfold retQ at h3
 have key : ∀ vs,resultsF P H' s' fn.results.toList = some vs → (e = .normal ∨ e = .ret) → funcA P C (n + 1) base f args H = some (packA vs,H') := by
  intro vs hv he
  unfold funcA
  simp only [hp,hf,hc,h1]
  rcases he with rfl | rfl <;> simp [h2.results,hv]
 cases e with
 | exit i => exact h3.elim
 | normal =>
  simp only at h3
  split at h3
  ·rename_i vs hv; exact ⟨n + 1,_,H',key vs hv (.inl rfl),h3⟩
  ·exact h3.elim
 | ret =>
  simp only at h3
  split at h3
  ·rename_i vs hv; exact ⟨n + 1,_,H',key vs hv (.inr rfl),h3⟩
  ·exact h3.elim
def chksV (P : Program) (C : Cfg) (base : Nat) (ops : Array Oper) (acc : List (Sl × Heap × AV)) (H : Heap) : Prop := ∀ ip ∈ consL P ops,chkV P C base ops acc H ip
def kV (P : Program) (C : Cfg) (N base : Nat) (ops : Array Oper) (i : Nat) (l : List Oper) (d : Option Tmp) (s : Sl) (H : Heap) (acc : List (Sl × Heap × AV)) (Q : Sl → Heap → Prop) : AV → Heap → Prop := fun v H' => wpOpsV P C N base ops (i + 1) l (putF s d v) H' (acc ++ [(s,H,v)]) Q
@[simp ↓] theorem kV_app (ops : Array Oper) (i : Nat) (l : List Oper) (d : Option Tmp) (s : Sl) (H : Heap) (acc : List (Sl × Heap × AV)) (Q : Sl → Heap → Prop) (v : AV) (H' : Heap) : kV P C N base ops i l d s H acc Q v H' = wpOpsV P C N base ops (i + 1) l (putF s d v) H' (acc ++ [(s,H,v)]) Q := Eq.trans rfl rfl
@[simp ↓] theorem wpV_nil (ops : Array Oper) (i : Nat) (s : Sl) (H : Heap) (acc : List (Sl × Heap × AV)) (Q : Sl → Heap → Prop) : wpOpsV P C N base ops i [] s H acc Q = (Q s H ∧ chksV P C base ops acc H) := Eq.trans rfl rfl
@[simp ↓] theorem wpV_cons (ops : Array Oper) (i : Nat) (d : Option Tmp) (op : Op) (t : TypeId) (pos : String) (af : Array Edge) (l : List Oper) (s : Sl) (H : Heap) (acc : List (Sl × Heap × AV)) (Q : Sl → Heap → Prop) :
 wpOpsV P C N base ops i (⟨d,op,t,pos,af,none⟩ :: l) s H acc Q = (dstOk N d ∧ wpOp P C base ⟨d,op,t,pos,af,none⟩ s H (kV P C N base ops i l d s H acc Q)) := by
 apply propext
 constructor
 ·rintro ⟨a,_,b⟩; exact ⟨a,b⟩
 ·rintro ⟨a,b⟩; exact ⟨a,.inr rfl,b⟩
@[simp ↓] theorem wpV_guard (ops : Array Oper) (i : Nat) (d : Option Tmp) (op : Op) (t : TypeId) (pos : String) (af : Array Edge) (g : Nat × Bool) (l : List Oper) (s : Sl) (H : Heap) (acc : List (Sl × Heap × AV)) (Q : Sl → Heap → Prop) :
 wpOpsV P C N base ops i (⟨d,op,t,pos,af,some g⟩ :: l) s H acc Q = (dstOk N d ∧ (clsS P ops i < 2 ∨ wantedF ops s ⟨d,op,t,pos,af,some g⟩ = some true) ∧ gstep (guardV ops s g) (fun K => wpOp P C base ⟨d,op,t,pos,af,none⟩ s H K) H (kV P C N base ops i l d s H acc Q)) := Eq.trans rfl rfl
theorem wantedF_guard (ops : Array Oper) (d : Option Tmp) (op : Op) (t : TypeId) (pos : String) (af : Array Edge) (g : Nat × Bool) (s : Sl) : wantedF ops s ⟨d,op,t,pos,af,some g⟩ = guardV ops s g := by
 obtain ⟨j,w⟩ := g
 simp only [wantedF,guardV,wantedV]
 cases (ops[j]?).bind (·.dst) with
 | none => rfl
 | some d => simp only; cases s d <;> rfl
@[simp ↓] theorem wpStep_none (ops : Array Oper) (d : Option Tmp) (op : Op) (t : TypeId) (pos : String) (af : Array Edge) (s : Sl) (H : Heap) (K : AV → Heap → Prop) : wpStep P C base ops ⟨d,op,t,pos,af,none⟩ s H K = wpOp P C base ⟨d,op,t,pos,af,none⟩ s H K := Eq.trans rfl rfl
@[simp ↓] theorem wpStep_guard (ops : Array Oper) (d : Option Tmp) (op : Op) (t : TypeId) (pos : String) (af : Array Edge) (g : Nat × Bool) (s : Sl) (H : Heap) (K : AV → Heap → Prop) : wpStep P C base ops ⟨d,op,t,pos,af,some g⟩ s H K = gstep (guardV ops s g) (fun K => wpOp P C base ⟨d,op,t,pos,af,none⟩ s H K) H K := Eq.trans rfl rfl
theorem chks_at {ops : Array Oper} {acc : List (Sl × Heap × AV)} {H : Heap} {L : List (Nat × Nat)} (h : consL P ops = L) (hp : ∀ ip ∈ L,chkV P C base ops acc H ip) : chksV P C base ops acc H := by unfold chksV; rw [h]; exact hp
end Go.Proofs.Ev
namespace Go.Proofs.Ev
open Go.Proofs
variable {C : Cfg} {σ : Sorts}
def lookM (M : List (IdV × List IdV)) (d : IdV) : List IdV :=
 match M with
 | [] => []
 | x :: M => if sameId x.1 d then x.2 else lookM M d
theorem lookM_len {n : Nat} (d : IdV) : ∀ {T : List KR},(∀ t ∈ T,t.l.length ≤ n) → (lookM (T.map KR.m) d).length ≤ n
 | [],_ => Nat.zero_le _
 | t :: T,h => by
  show (if sameId t.k d then t.l else lookM (T.map KR.m) d).length ≤ n
  split
  ·exact h t (by simp)
  ·exact lookM_len d fun u hu => h u (by simp [hu])
def NeM (M : List (IdV × List IdV)) : Prop := ∀ x ∈ M,x.2 ≠ []
theorem NeM.add {d y : IdV} : ∀ {M : List (IdV × List IdV)},NeM M → NeM (addM M d y)
 | [],_ => by intro x hx; simp [addM] at hx; subst hx; simp
 | x :: M,h => by
  have h1 := h x (by simp)
  have ih := NeM.add (d := d) (y := y) (M := M) fun z hz => h z (by simp [hz])
  intro z hz
  rw [addM] at hz
  split at hz
  ·rcases List.mem_cons.1 hz with rfl | hz
   ·simp
   ·exact h z (by simp [hz])
  ·rcases List.mem_cons.1 hz with rfl | hz
   ·exact h1
   ·exact ih z hz
theorem killP_ne (s : List StoredV) : NeM (killP σ s).2 := by
 unfold killP
 have key : ∀ (l : List AtV) (a : KS),NeM a.2 → NeM (l.foldl stepK a).2 := by
  intro l
  induction l with
  | nil => intro a h; exact h
  | cons x l ih =>
   intro a h
   refine ih _ ?_
   unfold stepK
   split
   ·exact h
   ·have k2 : ∀ (o : List IdV) (a : KS),NeM a.2 → NeM (o.foldl (stepO x) a).2 := by
     intro o
     induction o with
     | nil => intro a h; exact h
     | cons d o ih => intro a h; exact ih _ h.add
    exact k2 _ _ h
 exact key _ _ (by intro x hx; cases hx)
theorem posK_look : ∀ (T : List KR) (d : IdV),(∀ i v,posK (T.map KR.e) d = some (i,v) → ∃ t,T[i]? = some t ∧ v = t.v ∧ lookM (T.map KR.m) d = t.l) ∧ (posK (T.map KR.e) d = none → lookM (T.map KR.m) d = [])
 | [],d => by simp [posK,lookM]
 | x :: T,d => by
  have ih := posK_look T d
  have hc : posK ((x :: T).map KR.e) d = if sameId x.k d then some (0,x.v) else (posK (T.map KR.e) d).map fun p => (p.1 + 1,p.2) := rfl
  have ha : lookM ((x :: T).map KR.m) d = if sameId x.k d then x.l else lookM (T.map KR.m) d := rfl
  rw [hc,ha]
  cases hs : sameId x.k d with
  | true => exact ⟨fun i v h => by simp at h; obtain ⟨rfl,rfl⟩ := h; exact ⟨x,rfl,rfl,by simp⟩,by simp⟩
  | false =>
   simp only [Bool.false_eq_true,if_false]
   refine ⟨fun i v h => ?_,fun h => ih.2 (by simpa using h)⟩
   cases hp : posK (T.map KR.e) d with
   | none => rw [hp] at h; cases h
   | some p =>
    rw [hp] at h
    cases h
    obtain ⟨t,h1,h2,h3⟩ := ih.1 p.1 p.2 hp
    exact ⟨t,by simpa using h1,h2,h3⟩
theorem look_kill (S : Setting C) {V : Heap} {m lo : Nat} {T : List KR} (hm : V[m]? = some (.map (entI (T.map KR.e)))) (hks : KsIs lo T V) (hne : NeM (T.map KR.m)) (d : IdV) :
 (lookM (T.map KR.m) d = [] ∧ lookupA Tryz.prog C V 88 (.map m) (.agg d.cells) false = some .nils) ∨
 (lookM (T.map KR.m) d ≠ [] ∧ ∃ b g,lo ≤ b ∧ V[b]? = some (.rows 33 g ((lookM (T.map KR.m) d).map IdV.cells)) ∧ lookupA Tryz.prog C V 88 (.map m) (.agg d.cells) false = some (.sl b g 33 0 (lookM (T.map KR.m) d).length)) := by
 have hf := find_I S d (T.map KR.e) 0
 obtain ⟨h1,h2⟩ := posK_look T d
 simp only [lookupA,un88,keyOk_I S,entsA,hm,hf,if_true]
 cases hp : posK (T.map KR.e) d with
 | none => left; exact ⟨h2 hp,by simp⟩
 | some p =>
  obtain ⟨t,ht,hv,hl⟩ := h1 p.1 p.2 hp
  have htm := List.mem_of_getElem? ht
  obtain ⟨a1,a2⟩ := hks.1 t htm
  right
  rw [hl]
  refine ⟨hne t.m (List.mem_map.2 ⟨t,htm,rfl⟩),t.b,t.g,a1,a2,?_⟩
  simp [hv,KR.v]
def killersP (σ : Sorts) (s : List StoredV) (id : IdV) : List IdV := if (findP σ s id).isSome then σ.i (lookM (killP σ s).2 id) else []
set_option maxHeartbeats 2000000 in
theorem ret_Killers (S : SettingT C σ) (l : List StoredV) (k : SK) (id : IdV) (hs : SetGood l) (h8 : l.length ≤ 8) : Ret Tryz.prog C 56 [] [slAV k (l.map StoredV.cells),.agg id.cells] (slAV (nlK (killersP σ l id)) ((killersP σ l id).map IdV.cells)) := by
 refine ret_pure (S.pureT _ (by decide)) fun H => func_sem Tryz.func56 rfl (S.prim _ (by decide)) (by simp) ?_
 have e := (ret_Find S.toSettingS l k id hs).eq
 cases hf : findP σ l id with
 | none =>
  have hk : killersP σ l id = [] := by unfold killersP; rw [hf]; rfl
  rw [hf] at e
  simp only [Option.getD_none,Option.isSome_none] at e
  refine sem_wp (by kernel_rfl) ?_
  unfold Tryz.f56
  simp [argS,e,storeA,fillA,hk]
  rfl
 | some x =>
  rw [hf] at e
  simp only [Option.getD_some,Option.isSome_some] at e
  have hk : killersP σ l id = σ.i (lookM (killP σ l).2 id) := by unfold killersP; rw [hf]; rfl
  obtain ⟨V,T,v1,v2,v3,v4,vlo,ek⟩ := killers_ex S (k := k) hs h8 (base := H.length) (H := H ++ [.rows 33 0 [id.cells],.rows 172 0 [x.cells]]) (by simp)
  have hne := killP_ne (σ := σ) l
  rw [← v2] at hne hk
  have hid : blkRow V H.length 0 33 0 = some id.cells := by
   have h1 := vlo H.length (.rows 33 0 [id.cells]) (by simp)
   simp [blkRow,h1]
  simp only [List.length_append,List.length_cons,List.length_nil,Nat.zero_add] at v1 ek v3
  obtain ⟨M,hM⟩ : ∃ M,M = lookM (T.map KR.m) id := ⟨_,rfl⟩
  refine sem_cut (fun s H' => s 0 = slAV k (l.map StoredV.cells) ∧ s 3 = .ptr H.length 0 33 0 0 ∧ H' = H ++ [.rows 33 0 [id.cells]]) (sem_wp (by kernel_rfl) (by simp [argS])) ?_
  rintro s H' ⟨q0,q3,rfl⟩
  refine sem_cut (fun s H' => s 0 = slAV k (l.map StoredV.cells) ∧ s 3 = .ptr H.length 0 33 0 0 ∧ H' = H ++ [.rows 33 0 [id.cells],.rows 172 0 [x.cells]]) (sem_wp (by kernel_rfl) (by simp [q0,q3,e,storeA,fillA])) ?_
  clear q0 q3
  rintro s H' ⟨q0,q3,rfl⟩
  refine sem_cut (fun s H' => (M = [] ∧ s 7 = .nils ∧ H' = V) ∨ (M ≠ [] ∧ ∃ b g,H.length + 1 + 1 + 6 ≤ b ∧ V[b]? = some (.rows 33 g (M.map IdV.cells)) ∧ s 7 = .sl b g 33 0 M.length ∧ H' = V)) (sem_draw (by kernel_rfl) ?_) ?_
  ·rcases look_kill S.toSetting v1 v3 hne id with ⟨h1,h2⟩ | ⟨h1,b,g,h2,h3,h4⟩
   ·simp [q0,q3,ek,hid,h2]
    refine ⟨by rw [hM]; exact h1,?_⟩
    refine chks_at (L := [(2,0),(2,1),(2,2),(2,3),(2,4),(2,5),(3,2),(3,3),(3,4),(3,5)]) (by kernel_rfl) ?_
    simp [chkV,hAt,q0,q3,hid,h2]
    done
   ·rw [← hM] at h1 h3 h4
    simp [q0,q3,ek,hid,h4]
    refine ⟨⟨h1,h2,h3⟩,?_⟩
    refine chks_at (L := [(2,0),(2,1),(2,2),(2,3),(2,4),(2,5),(3,2),(3,3),(3,4),(3,5)]) (by kernel_rfl) ?_
    simp [chkV,hAt,q0,q3,hid,h4]
    done
  clear q0 q3
  rintro s H' (⟨h1,q7,rfl⟩ | ⟨h1,b,g,h2,h3,q7,rfl⟩)
  ·refine sem_wp (by kernel_rfl) ?_
   have hk0 : killersP σ l id = [] := by rw [hk,← hM,h1]; exact (S.permI []).eq_nil
   have es := fun H' K => S.sortI0 (base := H.length) (H := H') K
   simp [q7,es,hk0]
   rfl
  ·refine sem_wp (by kernel_rfl) ?_
   rw [← hM] at hk
   have es := fun K => S.sortI (base := H.length) (H := H') (b := b) (g := g) (l := M) (by have := lookM_len (n := 2 ^ 30) id v4; rw [← hM] at this; omega) (by omega) h3 K
   have hbV : b < H'.length := (List.getElem?_eq_some_iff.1 h3).1
   have hlen : (σ.i M).length = M.length := (S.permI M).length_eq
   have hne0 : σ.i M ≠ [] := fun h0 => h1 (List.length_eq_zero_iff.1 (by rw [← hlen,h0]; rfl))
   have hkk : nlK (killersP σ l id) = .loose := by rw [hk]; unfold nlK; cases hq : σ.i M with | nil => exact absurd hq hne0 | cons _ _ => rfl
   simp [q7,es]
   rw [hkk,hk]
   have hfz := freeze_sl (H := H'.set b (.rows 33 g ((σ.i M).map IdV.cells))) (b := b) (g := g) (sz := 33) (k := H.length) (d := 2) (rs := (σ.i M).map IdV.cells) (by rw [List.getElem?_set_self hbV]) (by omega) (closedss_map IdV.closed _)
   rw [List.length_map,hlen] at hfz
   rw [hfz]
   cases (σ.i M).map IdV.cells <;> rfl
def aliveP (σ : Sorts) (s : List StoredV) (id : IdV) : Bool := (findP σ s id).isSome && decide ((lookM (killP σ s).2 id).length = 0)
set_option maxHeartbeats 2000000 in
theorem ret_Alive (S : SettingT C σ) (l : List StoredV) (k : SK) (id : IdV) (hs : SetGood l) (h8 : l.length ≤ 8) : Ret Tryz.prog C 10 [] [slAV k (l.map StoredV.cells),.agg id.cells] (.bool (aliveP σ l id)) := by
 refine ret_pure (S.pureT _ (by decide)) fun H => func_sem Tryz.func10 rfl (S.prim _ (by decide)) (by simp) ?_
 have e := (ret_Find S.toSettingS l k id hs).eq
 unfold aliveP
 cases hf : findP σ l id with
 | none =>
  rw [hf] at e
  simp only [Option.getD_none,Option.isSome_none] at e
  refine sem_wp (by kernel_rfl) ?_
  unfold Tryz.f10
  simp [argS,guardV,e,storeA,fillA]
 | some x =>
  rw [hf] at e
  simp only [Option.getD_some,Option.isSome_some] at e
  obtain ⟨V,T,v1,v2,v3,v4,vlo,ek⟩ := killers_ex S (k := k) hs h8 (base := H.length) (H := H ++ [.rows 33 0 [id.cells],.rows 172 0 [x.cells]]) (by simp)
  have hne := killP_ne (σ := σ) l
  rw [← v2] at hne ⊢
  have hid : blkRow V H.length 0 33 0 = some id.cells := by
   have h1 := vlo H.length (.rows 33 0 [id.cells]) (by simp)
   simp [blkRow,h1]
  simp only [List.length_append,List.length_cons,List.length_nil,Nat.zero_add] at v1 ek v3
  obtain ⟨M,hM⟩ : ∃ M,M = lookM (T.map KR.m) id := ⟨_,rfl⟩
  refine sem_cut (fun s H' => s 0 = slAV k (l.map StoredV.cells) ∧ s 3 = .ptr H.length 0 33 0 0 ∧ H' = H ++ [.rows 33 0 [id.cells]]) (sem_wp (by kernel_rfl) (by simp [argS])) ?_
  rintro s H' ⟨q0,q3,rfl⟩
  refine sem_cut (fun s H' => s 0 = slAV k (l.map StoredV.cells) ∧ s 3 = .ptr H.length 0 33 0 0 ∧ s 6 = .bool true ∧ H' = H ++ [.rows 33 0 [id.cells],.rows 172 0 [x.cells]]) (sem_wp (by kernel_rfl) (by simp [q0,q3,e,storeA,fillA])) ?_
  clear q0 q3
  rintro s H' ⟨q0,q3,q6,rfl⟩
  refine sem_cut (fun s H' => s 4 = .bool (decide (M.length = 0))) (sem_draw (by kernel_rfl) ?_) ?_
  ·have hb0 : ((M.length : Int) == 0) = decide (M.length = 0) := by rw [Bool.eq_iff_iff]; simp
   rcases look_kill S.toSetting v1 v3 hne id with ⟨h1,h2⟩ | ⟨h1,b,g,h2,h3,h4⟩
   ·have hM0 : M = [] := by rw [hM]; exact h1
    simp [q0,q3,q6,guardV,wantedF_guard,ek,hid,h2,AV.denil,hM0]
    refine chks_at (L := [(4,0),(4,1),(4,2),(4,3),(4,4),(4,5),(4,6),(4,7),(4,8),(4,9),(4,10),(5,4),(5,5),(5,6),(5,7),(5,8),(5,9),(5,10),(6,4),(6,5),(6,6),(6,7),(6,8),(6,9),(6,10)]) (by kernel_rfl) ?_
    simp [chkV,hAt,q0,q3,q6,guardV,hid,h2,AV.denil]
    done
   ·rw [← hM] at h1 h3 h4
    simp [q0,q3,q6,guardV,wantedF_guard,ek,hid,h4,AV.denil,hb0]
    refine chks_at (L := [(4,0),(4,1),(4,2),(4,3),(4,4),(4,5),(4,6),(4,7),(4,8),(4,9),(4,10),(5,4),(5,5),(5,6),(5,7),(5,8),(5,9),(5,10),(6,4),(6,5),(6,6),(6,7),(6,8),(6,9),(6,10)]) (by kernel_rfl) ?_
    simp [chkV,hAt,q0,q3,q6,guardV,hid,h4,AV.denil]
    done
  clear q0 q3 q6
  rintro s H' q4
  refine sem_wp (by kernel_rfl) ?_
  simp [q4,hM]
end Go.Proofs.Ev
