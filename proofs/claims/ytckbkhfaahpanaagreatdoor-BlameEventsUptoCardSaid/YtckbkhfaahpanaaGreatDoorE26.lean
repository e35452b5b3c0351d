/- Part 26 of the proof that quiltlaw38.BlameEvents returns true: no statement of its own. -/
import Derived.Test.YtckbkhfaahpanaaGreatDoorE25
set_option linter.all false
namespace Go.Proofs.Ev
open Go.Proofs
variable {C : Cfg} {σ : Sorts}
theorem appendA_len {P : Program} {base : Nat} {H : Heap} {ts : Array TypeId} {s x v' : AV} {H' : Heap} (h : appendA P base H ts s x = some (v',H')) : H.length ≤ H'.length := by
 unfold appendA at h
 repeat' split at h
 all_goals cases h
 all_goals first
  | exact Nat.le_refl _
  | (rw [List.length_append]; exact Nat.le_add_right _ _)
  | (rw [List.length_set]; exact Nat.le_refl _)
structure EvV where
 kind : Int
 patch : DigV
 id : IdV
def EvV.cells (e : EvV) : List AV := .int .i64 e.kind :: (e.patch.cells ++ e.id.cells)
@[simp] theorem EvV.len (e : EvV) : e.cells.length = 66 := by simp [EvV.cells]
@[simp] theorem EvV.leafs (e : EvV) : e.cells.all AV.leaf = true := by
 have h1 := e.patch.leafs
 have h2 := e.id.leafs
 simp only [EvV.cells,List.all_cons,List.all_append,h1,h2]; rfl
@[simp] theorem EvV.closed (e : EvV) : AV.closeds e.cells = true := by simp [EvV.cells,AV.closeds,AV.closed,closeds_append]
@[simp] theorem EvV.take (e : EvV) : e.cells.take 66 = e.cells := List.take_of_length_le (by simp)
theorem ev_build (k : Int) (d : DigV) (id : IdV) : buildA Tryz.prog 40 [(0,.int .i64 k),(1,.agg d.cells),(2,.agg id.cells)] = some (.agg (EvV.cells ⟨k,d,id⟩)) := by
 have h1 : d.cells.length = 32 := by simp
 have h2 : id.cells.length = 33 := by simp
 have h3 : (dig digest0).length = 32 := by decide
 have h4 : digest0.length = 32 := by decide
 have h5 : zeroId.cells.length = 33 := by simp
 have l1 := d.leafs
 have l2 := id.leafs
 have a1 : (dig digest0 ++ zeroId.cells).drop 32 = zeroId.cells := by rw [drop_skip (n := 32) h3 (by decide)]; rfl
 have a2 : zeroId.cells.drop 33 = [] := List.drop_of_length_le (by simp)
 have a3 : (d.cells ++ zeroId.cells).take 32 = d.cells := by rw [List.take_append_of_le_length (by simp)]; exact List.take_of_length_le (by simp)
 have a4 : (d.cells ++ zeroId.cells).drop 65 = [] := List.drop_of_length_le (by simp)
 simp [fillA,h1,h2,h4,a1,a2,a3,a4,EvV.cells]
 done
structure Rec (base lo rb : Nat) (line : IdV) (th al : Bool) (ev : List EvV) (X : Heap) : Prop where
 r : ∃ v,X[rb]? = some (.rows 36 0 [line.cells ++ [.bool th,.bool al,v]]) ∧ GrowS lo 66 X v (ev.map EvV.cells) ∧ ((ev = [] ∧ v = .nils) ∨ (ev ≠ [] ∧ ∃ b g n,v = .sl b g 66 0 n))
 low : base ≤ lo ∧ base ≤ rb ∧ rb < lo ∧ lo ≤ X.length
def RKeep (rb : Nat) (X X' : Heap) : Prop := X.length ≤ X'.length ∧ ∀ b blk,b ≠ rb → X[b]? = some blk → (∀ g rs,blk ≠ Blk.rows 66 g rs) → X'[b]? = some blk
theorem RKeep.trans {rb : Nat} {X Y Z : Heap} (h1 : RKeep rb X Y) (h2 : RKeep rb Y Z) : RKeep rb X Z := ⟨Nat.le_trans h1.1 h2.1,fun b blk hb hx hn => h2.2 b blk hb (h1.2 b blk hb hx hn) hn⟩
theorem RKeep.app (rb : Nat) (X L : Heap) : RKeep rb X (X ++ L) := ⟨by simp,fun b blk _ hx _ => by rw [List.getElem?_append_left (List.getElem?_eq_some_iff.1 hx).1]; exact hx⟩
theorem Rec.app {base lo rb : Nat} {line : IdV} {th al : Bool} {ev : List EvV} {X : Heap} (h : Rec base lo rb line th al ev X) (L : Heap) : Rec base lo rb line th al ev (X ++ L) := by
 obtain ⟨⟨v,h1,h2,h3⟩,a1,a2,a3,a4⟩ := h
 exact ⟨⟨v,by rw [List.getElem?_append_left (List.getElem?_eq_some_iff.1 h1).1]; exact h1,h2.app L,h3⟩,a1,a2,a3,by simp; omega⟩
theorem rec_d34 (x : IdV) (a : AV) (l : List AV) : (x.cells ++ a :: l).drop 34 = l := by rw [drop_skip (n := 33) (by simp) (by decide)]; rfl
theorem rec_d35 (x : IdV) (a b : AV) (l : List AV) : (x.cells ++ a :: b :: l).drop 35 = l := by rw [drop_skip (n := 33) (by simp) (by decide)]; rfl
theorem rec_d36 (x : IdV) (a b c : AV) (l : List AV) : (x.cells ++ a :: b :: c :: l).drop 36 = l := by rw [drop_skip (n := 33) (by simp) (by decide)]; rfl
theorem rec_t34 (x : IdV) (a : AV) (l : List AV) : (x.cells ++ a :: l).take 34 = x.cells ++ [a] := by
 rw [List.take_append,List.take_of_length_le (by simp)]; simp
theorem rec_t35 (x : IdV) (a b : AV) (l : List AV) : (x.cells ++ a :: b :: l).take 35 = x.cells ++ [a,b] := by
 rw [List.take_append,List.take_of_length_le (by simp)]; simp
set_option maxHeartbeats 2000000 in
theorem add_ex (S : SettingT C σ) {base lo rb : Nat} {line : IdV} {th al : Bool} {ev : List EvV} {X : Heap} (h : Rec base lo rb line th al ev X) (hn : ev.length ≤ 2 ^ 20) (k : Int) (d : DigV) (id : IdV) :
 ∃ X',Rec base lo rb line th al (ev ++ [⟨k,d,id⟩]) X' ∧ RKeep rb X X' ∧ ∀ K : AV → Heap → Prop,CallW Tryz.prog C base (.fn 55 []) [.ptr rb 0 36 0 0,.int .i64 k,.agg d.cells,.agg id.cells] X K = K (.tup []) X' := by
 suffices hh : CallW Tryz.prog C base (.fn 55 []) [.ptr rb 0 36 0 0,.int .i64 k,.agg d.cells,.agg id.cells] X (fun v' X' => v' = .tup [] ∧ Rec base lo rb line th al (ev ++ [⟨k,d,id⟩]) X' ∧ RKeep rb X X') by
  obtain ⟨X',⟨h1,h2⟩,h3⟩ := CallW.ex hh
  exact ⟨X',h1,h2,h3⟩
 have hA := h.app [.rows 32 0 [d.cells],.rows 33 0 [id.cells]]
 obtain ⟨⟨v,h1,h2,h3⟩,a1,a2,a3,a4⟩ := hA
 obtain ⟨v',X',ha,hg',hst,hsl⟩ := h2.append (P := Tryz.prog) (base := base) (ts := #[30,30]) (e := 40) (xd := .slice 40) (x := .lst [EvV.cells ⟨k,d,id⟩] true) (ys := [EvV.cells ⟨k,d,id⟩])
  (by simp) (by simp) sz40 by40 (by simp [show digest0.length = 32 by decide]) (by decide) a1 (fun r hr => by obtain ⟨y,_,rfl⟩ := List.mem_map.1 hr; simp) rfl (by simp) (by simp; omega)
 have hv'l := hsl (by simp)
 have hrb' : X'[rb]? = some (.rows 36 0 [line.cells ++ [.bool th,.bool al,v]]) := hst _ _ h1 (by intro g rs h; cases h)
 have hrX : rb < X'.length := (List.getElem?_eq_some_iff.1 hrb').1
 refine call_rule (S.plainT _ (by decide)).1 (S.plainT _ (by decide)).2 (func_rule Tryz.func55 rfl (S.prim _ (by decide)) (by simp) (by kernel_rfl) ?_)
 unfold Tryz.f55
 refine cut (fun s X'' => s 0 = .ptr rb 0 36 0 0 ∧ s 1 = .int .i64 k ∧ s 6 = .ptr X.length 0 32 0 0 ∧ s 7 = .ptr (X.length + 1) 0 33 0 0 ∧ X'' = X ++ [.rows 32 0 [d.cells],.rows 33 0 [id.cells]]) ?_ ?_
 ·simp [argS]
 rintro s X'' ⟨q0,q1,q6,q7,rfl⟩
 have hr1 : blkRow (X ++ [.rows 32 0 [d.cells],.rows 33 0 [id.cells]]) rb 0 36 0 = some (line.cells ++ [.bool th,.bool al,v]) := by simp only [blkRow,h1]; simp
 have eb := ev_build k d id
 obtain ⟨en,hen⟩ : ∃ en,en = EvV.cells ⟨k,d,id⟩ := ⟨_,rfl⟩
 have henl : en.length = 66 := by rw [hen]; simp
 have hena : ∀ x ∈ en,x.leaf = true := by rw [hen]; exact List.all_eq_true.1 (EvV.leafs _)
 rw [← hen] at eb ha
 have hvl : v'.leaf = true := by obtain ⟨b,g,n,rfl⟩ := hv'l; rfl
 have hvc : v'.cells = [v'] := by obtain ⟨b,g,n,rfl⟩ := hv'l; rfl
 have r35 := rec_d35 line (.bool th) (.bool al) [v]
 have r36 := rec_d36 line (.bool th) (.bool al) v []
 have r35' := rec_t35 line (.bool th) (.bool al) [v]
 have hrow' : blkRow X' rb 0 36 0 = some (line.cells ++ [.bool th,.bool al,v]) := by simp [blkRow,hrb']
 simp [-bu40,q0,q1,q6,q7,hr1,eb,hena,henl,r35,buildSliceA,fillRows,show digest0.length = 32 by decide,ha]
 rw [kOpsU_turn (h := by kernel_rfl)]
 simp [q0,q1,q6,q7,storeA,hrb',hvl,hvc,r35',r36,a2]
 rw [kOpsU_turn (h := by kernel_rfl)]
 simp
 have hkeep : ∀ b blk,b ≠ rb → X[b]? = some blk → (∀ g rs,blk ≠ Blk.rows 66 g rs) → (X'.set rb (.rows 36 0 [line.cells ++ [.bool th,.bool al,v']]))[b]? = some blk := fun b blk hb hx hn => by
  rw [List.getElem?_set_ne (Ne.symm hb)]
  exact hst _ _ (by rw [List.getElem?_append_left (List.getElem?_eq_some_iff.1 hx).1]; exact hx) hn
 have hlX : X.length ≤ X'.length := by
  have := appendA_len ha
  simp at this; omega
 refine ⟨hena,⟨⟨v',by rw [List.getElem?_set_self hrX],?_,.inr ⟨by simp,hv'l⟩⟩,a1,a2,a3,?_⟩,⟨by simpa using hlX,hkeep⟩⟩
 ·have := hg'.setL (x := .rows 36 0 [line.cells ++ [.bool th,.bool al,v']]) hrb' (by intro g rs h; cases h)
  simpa using this
 ·have := hg'.1
  simpa using this
def stepR (σ : Sorts) (line : IdV) (a : (Bool × Bool) × List EvV) (d : DigV) (part : List StoredV) : (Bool × Bool) × List EvV :=
 if a.1.1 = false ∧ d.d ≠ line.d then a else
  let b : Bool × List EvV := if a.1.1 then (a.1.2,a.2) else (true,a.2 ++ [⟨1,d,line⟩])
  let kl := killersP σ part line
  let alive := decide (kl.length = 0)
  if alive = b.1 then ((true,b.1),b.2) else ((true,alive),b.2 ++ [if alive then ⟨3,d,line⟩ else ⟨2,d,kl.getD 0 line⟩])
theorem bin_neqb (a b : Bool) : binA Tryz.prog C .neq 4 (.bool a) (.bool b) = some (.bool (a != b)) := by
 cases a <;> cases b <;> simp [binA,eqA]
theorem blk_keep {rb b e : Nat} {X X' : Heap} {r : List AV} (h : RKeep rb X X') (hb : b ≠ rb) (he : e ≠ 66) (hr : blkRow X b 0 e 0 = some r) : blkRow X' b 0 e 0 = some r := by
 unfold blkRow at hr ⊢
 cases hx : X[b]? with
 | none => rw [hx] at hr; cases hr
 | some blk =>
  rw [hx] at hr
  cases blk with
  | rows e' g rs =>
   simp only at hr
   split at hr
   ·rename_i hc
    obtain ⟨rfl,rfl⟩ := hc
    rw [h.2 b _ hb hx (by intro g' rs' h'; cases h'; exact he rfl)]
    simpa using hr
   ·cases hr
  | _ => cases hr
theorem Rec.row {base lo rb : Nat} {line : IdV} {th al : Bool} {ev : List EvV} {X : Heap} (h : Rec base lo rb line th al ev X) : ∃ v,blkRow X rb 0 36 0 = some (line.cells ++ [.bool th,.bool al,v]) := by
 obtain ⟨⟨v,h1,_⟩,_⟩ := h
 exact ⟨v,by simp [blkRow,h1]⟩
theorem Rec.flags {base lo rb : Nat} {line : IdV} {th al : Bool} {ev : List EvV} {X : Heap} (h : Rec base lo rb line th al ev X) (th' al' : Bool) {v : AV} (hv : blkRow X rb 0 36 0 = some (line.cells ++ [.bool th,.bool al,v])) : Rec base lo rb line th' al' ev (X.set rb (.rows 36 0 [line.cells ++ [.bool th',.bool al',v]])) := by
 obtain ⟨⟨v0,h1,h2,h3⟩,a1,a2,a3,a4⟩ := h
 have hrX : rb < X.length := (List.getElem?_eq_some_iff.1 h1).1
 have hvv : v0 = v := by
  simp only [blkRow,h1] at hv
  have := List.append_cancel_left (by simpa using hv : line.cells ++ [AV.bool th,.bool al,v0] = line.cells ++ [.bool th,.bool al,v])
  simpa using this
 subst hvv
 exact ⟨⟨v0,by rw [List.getElem?_set_self hrX],h2.setL h1 (by intro g rs h; cases h),h3⟩,a1,a2,a3,by simpa using a4⟩
theorem RKeep.set (rb : Nat) (X : Heap) (x : Blk) : RKeep rb X (X.set rb x) := ⟨by simp,fun b blk hb hx _ => by rw [List.getElem?_set_ne (Ne.symm hb)]; exact hx⟩
set_option maxRecDepth 100000 in
set_option maxHeartbeats 4000000 in
theorem step_ex (S : SettingT C σ) {base lo rb : Nat} {line : IdV} {th al : Bool} {ev : List EvV} {X : Heap} (h : Rec base lo rb line th al ev X) (hn : ev.length ≤ 2 ^ 19) (d : DigV) {part : List StoredV} {kp : SK} (hs : SetGood part) (h8 : part.length ≤ 8) :
 ∃ X',Rec base lo rb line (stepR σ line ((th,al),ev) d part).1.1 (stepR σ line ((th,al),ev) d part).1.2 (stepR σ line ((th,al),ev) d part).2 X' ∧ RKeep rb X X' ∧
  ∀ K : AV → Heap → Prop,CallW Tryz.prog C base (.fn 24 []) [.ptr rb 0 36 0 0,.agg d.cells,slAV kp (part.map StoredV.cells)] X K = K (.tup []) X' := by
 suffices hh : CallW Tryz.prog C base (.fn 24 []) [.ptr rb 0 36 0 0,.agg d.cells,slAV kp (part.map StoredV.cells)] X (fun v' X' => v' = .tup [] ∧ Rec base lo rb line (stepR σ line ((th,al),ev) d part).1.1 (stepR σ line ((th,al),ev) d part).1.2 (stepR σ line ((th,al),ev) d part).2 X' ∧ RKeep rb X X') by
  obtain ⟨X',⟨h1,h2⟩,h3⟩ := CallW.ex hh
  exact ⟨X',h1,h2,h3⟩
 have hlow := h.low
 have hA := h.app [.rows 32 0 [d.cells]]
 have ekl := (ret_Killers S part kp line hs h8).eq
 have eqd := eq_digV S.toSetting
 have end_ := fun a b => ne_of_eq (eqd a b)
 refine call_rule (S.plainT _ (by decide)).1 (S.plainT _ (by decide)).2 (func_rule Tryz.func24 rfl (S.prim _ (by decide)) (by simp) (by kernel_rfl) ?_)
 unfold Tryz.f24
 refine cut (fun s X'' => s 0 = .ptr rb 0 36 0 0 ∧ s 2 = slAV kp (part.map StoredV.cells) ∧ s 4 = .ptr X.length 0 32 0 0 ∧ X'' = X ++ [.rows 32 0 [d.cells]]) ?_ ?_
 ·simp [argS]
 rintro s X1 ⟨q0,q2,q4,hX1⟩
 have hdv : line.dv.cells = dig line.d := rfl
 have hrX : rb < X.length := by omega
 have hXrb : X.length ≠ rb := by omega
 have hd1 : blkRow X1 X.length 0 32 0 = some d.cells := by rw [hX1]; simp
 have hk1 : RKeep rb X X1 := by rw [hX1]; exact RKeep.app _ _ _
 rw [← hX1] at hA
 clear hX1
 have ht32 : ∀ l : List AV,List.take 32 (line.cells ++ l) = dig line.d := fun l => by rw [List.take_append_of_le_length (by simp),line.dig]
 have hn1 := end_ d line.dv
 rw [hdv] at hn1
 refine cut (fun s X2 => s 0 = .ptr rb 0 36 0 0 ∧ s 2 = slAV kp (part.map StoredV.cells) ∧ s 4 = .ptr X.length 0 32 0 0 ∧ blkRow X2 X.length 0 32 0 = some d.cells ∧ RKeep rb X X2 ∧ (th = true ∨ d.d = line.d) ∧
  Rec base lo rb line true (if th then al else true) (if th then ev else ev ++ [⟨1,d,line⟩]) X2) ?_ ?_
 ·obtain ⟨v,hv⟩ := hA.row
  have hg : X1[rb]? = some (.rows 36 0 [line.cells ++ [.bool th,.bool al,v]]) := by
   obtain ⟨⟨v0,h1,_⟩,_⟩ := hA
   have hvv : v0 = v := by
    simp only [blkRow,h1] at hv
    have := List.append_cancel_left (by simpa using hv : line.cells ++ [AV.bool th,.bool al,v0] = line.cells ++ [.bool th,.bool al,v])
    simpa using this
   rw [← hvv]; exact h1
  have hrX1 : rb < X1.length := (List.getElem?_eq_some_iff.1 hg).1
  cases th with
  | true =>
   simp [q0,q2,q4,hv,hd1]
   exact ⟨hk1,hA⟩
  | false =>
   by_cases hd : d.d = line.d
   ·have hF := hA.flags true true hv
    have hv3 : blkRow (X1.set rb (.rows 36 0 [line.cells ++ [.bool true,.bool true,v]])) rb 0 36 0 = some (line.cells ++ [.bool true,.bool true,v]) := by simp [blkRow,hrX1]
    have hd3 : blkRow (X1.set rb (.rows 36 0 [line.cells ++ [.bool true,.bool true,v]])) X.length 0 32 0 = some d.cells := blk_keep (RKeep.set rb X1 _) hXrb (by decide) hd1
    obtain ⟨X4,hR4,hk4,ea⟩ := add_ex S hF (by omega) 1 d line
    have hd4 := blk_keep hk4 hXrb (by decide) hd3
    have c1 := rec_d34 line (.bool false) [.bool al,v]
    have c2 := rec_d35 line (.bool true) (.bool al) [v]
    have c3 := rec_t34 line (.bool true) [.bool al,v]
    have hn2 : binA Tryz.prog C .neq 25 (.agg d.cells) (.agg (dig line.d)) = some (.bool false) := by rw [hn1]; simp [hd]; rfl
    have hs2 : (X1.set rb (.rows 36 0 [line.cells ++ [.bool true,.bool al,v]]))[rb]? = some (.rows 36 0 [line.cells ++ [.bool true,.bool al,v]]) := by rw [List.getElem?_set_self hrX1]
    simp [q0,q2,q4,hv,hd1,ht32,hn2,storeA,hg,hs2,c1,c2,c3,hlow.2.1,hv3,hd3,ea]
    rw [kOpsU_turn (h := by kernel_rfl)]
    simp [q0,q2,q4]
    exact ⟨hd4,(hk1.trans (RKeep.set _ _ _)).trans hk4,hd,hR4⟩
   ·have hst : stepR σ line ((false,al),ev) d part = ((false,al),ev) := by simp [stepR,hd]
    have hdd : ¬ d.d = line.dv.d := hd
    simp [q0,q2,q4,hv,hd1,ht32,hn1,hdd,hst]
    exact ⟨hA,hk1⟩
 clear q0 q2 q4
 rintro s X2 ⟨q0,q2,q4,hd2,hk2,hcond,hR2⟩
 obtain ⟨al2,hal2⟩ : ∃ al2,al2 = (if th then al else true) := ⟨_,rfl⟩
 obtain ⟨ev2,hev2⟩ : ∃ ev2,ev2 = (if th then ev else ev ++ [⟨1,d,line⟩]) := ⟨_,rfl⟩
 rw [← hal2,← hev2] at hR2
 have hev2l : ev2.length ≤ 2 ^ 20 := by rw [hev2]; split <;> simp <;> omega
 obtain ⟨kl,hkl⟩ : ∃ kl,kl = killersP σ part line := ⟨_,rfl⟩
 rw [← hkl] at ekl
 have hst : stepR σ line ((th,al),ev) d part = if decide (kl.length = 0) = al2 then ((true,al2),ev2) else ((true,decide (kl.length = 0)),ev2 ++ [if decide (kl.length = 0) then ⟨3,d,line⟩ else ⟨2,d,kl.getD 0 line⟩]) := by
  have h0 : ¬ (th = false ∧ d.d ≠ line.d) := by rcases hcond with h | h <;> simp [h]
  unfold stepR
  rw [if_neg h0]
  cases th <;> simp [hal2,hev2,hkl]
 rw [hst]
 obtain ⟨v2,hv2⟩ := hR2.row
 have hb0 : ((kl.length : Int) == 0) = decide (kl.length = 0) := by rw [Bool.eq_iff_iff]; simp
 obtain ⟨alive,hal⟩ : ∃ alive,alive = decide (kl.length = 0) := ⟨_,rfl⟩
 rw [← hal] at hb0 ⊢
 have e35 := rec_d34 line (.bool true) [.bool al2,v2]
 have nb := bin_neqb (C := C) alive al2
 by_cases he : alive = al2
 ·rw [if_pos he]
  rw [he] at nb hb0
  simp [q0,q2,q4,hv2,ekl,hb0,e35,nb]
  exact ⟨hR2,hk2⟩
 ·rw [if_neg he]
  have hne : (alive != al2) = true := by simpa using he
  rw [hne] at nb
  have hR3 : ∀ (e : EvV),∃ X3,Rec base lo rb line true al2 (ev2 ++ [e]) X3 ∧ RKeep rb X2 X3 ∧ ∀ K : AV → Heap → Prop,CallW Tryz.prog C base (.fn 55 []) [.ptr rb 0 36 0 0,.int .i64 e.kind,.agg e.patch.cells,.agg e.id.cells] X2 K = K (.tup []) X3 := fun e => add_ex S hR2 hev2l e.kind e.patch e.id
  have fin : ∀ (e : EvV) (X3 : Heap),Rec base lo rb line true al2 (ev2 ++ [e]) X3 → RKeep rb X2 X3 → ∃ v3,X3[rb]? = some (.rows 36 0 [line.cells ++ [.bool true,.bool al2,v3]]) ∧ Rec base lo rb line true alive (ev2 ++ [e]) (X3.set rb (.rows 36 0 [line.cells ++ [.bool true,.bool alive,v3]])) ∧ RKeep rb X (X3.set rb (.rows 36 0 [line.cells ++ [.bool true,.bool alive,v3]])) := by
   intro e X3 hR hk
   obtain ⟨v3,hv3⟩ := hR.row
   refine ⟨v3,?_,hR.flags true alive hv3,(hk2.trans hk).trans (RKeep.set _ _ _)⟩
   obtain ⟨⟨v0,h1,_⟩,_⟩ := hR
   have hvv : v0 = v3 := by
    simp only [blkRow,h1] at hv3
    have := List.append_cancel_left (by simpa using hv3 : line.cells ++ [AV.bool true,.bool al2,v0] = line.cells ++ [.bool true,.bool al2,v3])
    simpa using this
   rw [← hvv]; exact h1
  cases ha : alive with
  | true =>
   rw [ha] at nb hb0
   obtain ⟨X3,hR3,hk3,ea⟩ := hR3 ⟨3,d,line⟩
   obtain ⟨v3,hg3,hR4,hk4⟩ := fin _ _ hR3 hk3
   rw [ha] at hR4 hk4
   have c2 := rec_d35 line (.bool true) (.bool al2) [v3]
   have c3 := rec_t34 line (.bool true) [.bool al2,v3]
   simp only at ea
   simp [q0,q2,q4,hv2,hd2,ekl,hb0,e35,nb,ea]
   rw [kOpsU_turn (h := by kernel_rfl)]
   simp [q0,q2,q4,storeA,hg3,c2,c3,hlow.2.1]
   exact ⟨hR4,hk4⟩
  | false =>
   rw [ha] at nb hb0
   have hkl0 : kl ≠ [] := fun h => by rw [hal,h] at ha; cases ha
   obtain ⟨y,kl',hy⟩ := List.exists_cons_of_ne_nil hkl0
   have hg0 : kl.getD 0 line = y := by rw [hy]; rfl
   rw [hg0]
   obtain ⟨X3,hR3,hk3,ea⟩ := hR3 ⟨2,d,y⟩
   obtain ⟨v3,hg3,hR4,hk4⟩ := fin _ _ hR3 hk3
   rw [ha] at hR4 hk4
   have c2 := rec_d35 line (.bool true) (.bool al2) [v3]
   have c3 := rec_t34 line (.bool true) [.bool al2,v3]
   simp only at ea
   have hpos : 0 < kl.length := by rw [hy]; simp
   have hget : kl[0] = y := by simp [hy]
   simp [q0,q2,q4,hv2,hd2,ekl,hb0,e35,nb,ea,hpos,hget]
   rw [kOpsU_turn (h := by kernel_rfl)]
   simp [q0,q2,q4,storeA,hg3,c2,c3,hlow.2.1]
   exact ⟨hR4,hk4⟩
end Go.Proofs.Ev
namespace Go.Proofs.Ev
open Go.Proofs
variable {C : Cfg} {σ : Sorts}
theorem prefixes_eq (S : SettingT C σ) (v : AV) (hv : v.leaf = true) (hc : v.cells = [v]) {base : Nat} {H : Heap} (K : AV → Heap → Prop) :
 CallW Tryz.prog C base (.fn 23 []) [v] H K = K (.fn 52 [.ptr H.length 0 1 0 0]) (H ++ [.rows 1 0 [[v]]]) := by
 refine CallW.eq (call_rule (S.plainT _ (by decide)).1 (S.plainT _ (by decide)).2 (func_rule Tryz.func23 rfl (S.prim _ (by decide)) (by simp) (by kernel_rfl) ?_)) K
 unfold Tryz.f23
 simp [argS,hv,hc]
theorem keepP_good {s : List StoredV} (hs : SetGood s) (ids : List DigV) : SetGood (keepP s ids) :=
 ⟨fun x hx => hs.1 x (List.mem_filter.1 hx).1,hs.2.1.filter _,Nat.le_trans (List.length_filter_le _ _) hs.2.2⟩
set_option maxRecDepth 100000 in
set_option maxHeartbeats 4000000 in
theorem pre_walk (S : SettingT C σ) {s0 : List StoredV} {k : SK} (hs : SetGood s0) {base bl bs : Nat} {I : Nat → Heap → Prop} (happ : ∀ j X L,I j X → I j (X ++ L)) (hb : ∀ j X,I j X → base ≤ X.length ∧ blkRow X bs 0 1 0 = some [slAV k (s0.map StoredV.cells)])
 (hy : ∀ (j : Nat) X d,I j X → (ordP σ s0 s0.length [])[j]? = some d → CallW Tryz.prog C base (.yld bl) [.agg d.cells,slAV (nlK (keepP s0 ((ordP σ s0 s0.length []).take (j + 1)))) ((keepP s0 ((ordP σ s0 s0.length []).take (j + 1))).map StoredV.cells)] X fun v X' => v = .bool true ∧ I (j + 1) X')
 {X0 : Heap} (h0 : I 0 X0) (K : AV → Heap → Prop) (hK : ∀ X,I (ordP σ s0 s0.length []).length X → K (.tup []) X) :
 FuncW Tryz.prog C base 52 [.yld bl,.ptr bs 0 1 0 0] X0 K := by
 refine func_rule Tryz.func52 rfl (S.prim _ (by decide)) (by simp) (by kernel_rfl) ?_
 unfold Tryz.f52
 obtain ⟨L,hL⟩ : ∃ L,L = ordP σ s0 s0.length [] := ⟨_,rfl⟩
 have hLl : L.length ≤ 2 ^ 20 := by rw [hL]; have := ordP_len (σ := σ) s0 s0.length []; have := hs.2.2; simp at *; omega
 have eo := (ret_Order S.toSettingS s0 k hs).eq
 rw [← hL] at hy hK eo
 obtain ⟨_,hb0⟩ := hb 0 X0 h0
 simp [argS,hb0,eo]
 refine loop_count L.length (fun j s X => s 0 = .yld bl ∧ s 1 = .ptr bs 0 1 0 0 ∧ s 3 = slAV (nlK L) (L.map DigV.cells) ∧ s 8 = slAV (nlK L) (L.map DigV.cells) ∧ s 9 = .int .i64 L.length ∧ s 10 = .int .i64 j ∧ I j X) ?_ ?_
 ·exact ⟨rfl,rfl,rfl,rfl,rfl,rfl,h0⟩
 rintro j s X ⟨q0,q1,q3,q8,q9,q10,hI⟩ hj
 by_cases h : j < L.length
 ·obtain ⟨hbX,hbs⟩ := hb j X hI
  have hI2 := happ j X [.rows 32 0 [L[j].cells]] hI
  obtain ⟨_,hbs2⟩ := hb j _ hI2
  obtain ⟨x,hx⟩ := sl_take (P := Tryz.prog) (t := 60) (e := 25) (k := nlK L) (rows := L.map DigV.cells) (j := j + 1) (K := .i64) (by simp) sz25 (by simp) (by simp; omega)
  rw [← List.map_take] at hx
  have hxs : AV.lst ((L.take (j + 1)).map DigV.cells) x = slAV (if x then .exact else .loose) ((L.take (j + 1)).map DigV.cells) := by cases x <;> cases (L.take (j + 1)).map DigV.cells <;> rfl
  have ekp := (ret_Keep S.toSettingS s0 (L.take (j + 1)) k (if x then .exact else .loose) hs.2.2 (by simp; omega)).eq
  rw [← hxs] at ekp
  obtain ⟨X',hI',ey⟩ := CallW.ex (hy j _ L[j] hI2 (List.getElem?_eq_getElem h))
  have w1 : IntKind.i64.wrap ((j : Int) + 1) = ((j + 1 : Nat) : Int) := wrap_succ h (by omega)
  obtain ⟨j1,hj1⟩ : ∃ j1,j1 = j + 1 := ⟨_,rfl⟩
  rw [← hj1] at hx hxs ekp ey w1
  obtain ⟨tk,htk⟩ : ∃ tk,tk = (L.take j1).map DigV.cells := ⟨_,rfl⟩
  rw [← htk] at hx ekp
  have hd0 : digest0.length = 32 := by decide
  have hdr : List.drop 32 (dig digest0) = [] := by decide
  simp [q0,q1,q3,q8,q9,q10,h,storeA,hd0,hdr,hbX,hbs2,w1,hx,ekp,ey]
  rw [kOpsU_turn (h := by kernel_rfl)]
  simp [q0,q1,q3,q8,q9,q10,h,storeA,hd0,hdr,hbX,hbs2,w1,hx,ekp,ey]
  exact ⟨by omega,hI'⟩
 ·have h' : j = L.length := by omega
  subst h'
  simp [q0,q1,q3,q8,q9,q10]
  exact hK X hI
end Go.Proofs.Ev
namespace Go.Proofs.Ev
open Go.Proofs
variable {C : Cfg} {σ : Sorts}
def recP (σ : Sorts) (s : List StoredV) (line : IdV) (L : List DigV) : Nat → (Bool × Bool) × List EvV
 | 0 => ((false,false),[])
 | n + 1 => match L[n]? with
  | some d => stepR σ line (recP σ s line L n) d (keepP s (L.take (n + 1)))
  | none => recP σ s line L n
def eventsP (σ : Sorts) (s : List StoredV) (line : IdV) : List EvV := (recP σ s line (ordP σ s s.length []) (ordP σ s s.length []).length).2
theorem stepR_len (σ : Sorts) (line : IdV) (a : (Bool × Bool) × List EvV) (d : DigV) (part : List StoredV) : (stepR σ line a d part).2.length ≤ a.2.length + 2 := by
 unfold stepR
 split
 ·omega
 ·simp only
  split <;> split <;> simp <;> omega
theorem recP_len (σ : Sorts) (s : List StoredV) (line : IdV) (L : List DigV) : ∀ n,(recP σ s line L n).2.length ≤ 2 * n
 | 0 => Nat.le_refl _
 | n + 1 => by
  have ih := recP_len σ s line L n
  unfold recP
  split
  ·rename_i d _
   have := stepR_len σ line (recP σ s line L n) d (keepP s (L.take (n + 1)))
   omega
  ·omega
theorem rec_z (l : List AV) : (zeroId.cells ++ l).drop 33 = l := by rw [drop_skip (n := 33) (by simp) (by decide)]; rfl
theorem rec_l : zeroId.cells.length = 33 := by simp
theorem Rec.row' {base lo rb : Nat} {line : IdV} {th al : Bool} {ev : List EvV} {X : Heap} (h : Rec base lo rb line th al ev X) : ∃ v,blkRow X rb 0 36 0 = some (line.cells ++ [.bool th,.bool al,v]) ∧ GrowS lo 66 X v (ev.map EvV.cells) ∧ ((ev = [] ∧ v = .nils) ∨ (ev ≠ [] ∧ ∃ b g n,v = .sl b g 66 0 n)) := by
 obtain ⟨⟨v,h1,h2⟩,_⟩ := h
 exact ⟨v,by simp [blkRow,h1],h2⟩
theorem Rec.setO {base lo rb b : Nat} {line : IdV} {th al : Bool} {ev : List EvV} {X : Heap} {blk x : Blk} (h : Rec base lo rb line th al ev X) (hb : X[b]? = some blk) (hn : ∀ g rs,blk ≠ Blk.rows 66 g rs) (hne : b ≠ rb) : Rec base lo rb line th al ev (X.set b x) := by
 obtain ⟨⟨v0,h1,h2,h3⟩,a1,a2,a3,a4⟩ := h
 exact ⟨⟨v0,by rw [List.getElem?_set_ne hne]; exact h1,h2.setL hb hn,h3⟩,a1,a2,a3,by simpa using a4⟩
theorem GrowS.freezeAt {start sz d k : Nat} {X : Heap} {v : AV} {rows : List (List AV)} (hk : k ≤ start) (hg : GrowS start sz X v rows) (hc : AV.closedss rows = true) (hv : (rows = [] ∧ v = .nils) ∨ (rows ≠ [] ∧ ∃ b g l,v = .sl b g sz 0 l)) : freezeA X k (d + 1) v = some (slAV (nlK rows) rows) := by
 rcases hv with ⟨h0,h1⟩ | ⟨h0,b,g,l,h1⟩
 ·rw [h0,h1]; simp [nlK,slAV]
 ·have hk : nlK rows = .loose := by unfold nlK; cases rows with | nil => exact absurd rfl h0 | cons _ _ => rfl
  rcases hg.2 with ⟨_,h2⟩ | h2 | ⟨b',g',h2,h3⟩
  ·rw [h1] at h2; cases h2
  ·rw [h1] at h2; cases h2
  ·rw [List.getElem?_drop] at h3
   rw [h2,freeze_sl h3 (by omega) hc,hk]
   cases rows <;> rfl
def RecE (base lo rb : Nat) (line : IdV) (ev : List EvV) (X : Heap) : Prop := ∃ th al,Rec base lo rb line th al ev X
def EvI (σ : Sorts) (s : List StoredV) (line : IdV) (base lo rb pr bl bs : Nat) (LB : Blk) (v : AV) (j : Nat) (X : Heap) : Prop :=
 Rec base lo rb line (recP σ s line (ordP σ s s.length []) j).1.1 (recP σ s line (ordP σ s s.length []) j).1.2 (recP σ s line (ordP σ s s.length []) j).2 X ∧ X[bl]? = some LB ∧ blkRow X bs 0 1 0 = some [v] ∧ blkRow X pr 0 1 0 = some [.ptr rb 0 36 0 0]
theorem EvI.app {s : List StoredV} {line : IdV} {base lo rb pr bl bs : Nat} {LB : Blk} {v : AV} {j : Nat} {X : Heap} (h : EvI σ s line base lo rb pr bl bs LB v j X) (L : Heap) : EvI σ s line base lo rb pr bl bs LB v j (X ++ L) := by
 obtain ⟨h1,h2,h3,h4⟩ := h
 exact ⟨h1.app L,by rw [List.getElem?_append_left (List.getElem?_eq_some_iff.1 h2).1]; exact h2,blk_app h3 L,blk_app h4 L⟩
theorem ev_range (S : SettingT C σ) {s0 : List StoredV} {k : SK} (hs : SetGood s0) (h8 : s0.length ≤ 8) {line : IdV} {base lo rb pr bl bs nb po : Nat} {l1 : List AV} {ps : List Tmp} {asg bd : Code} {X : Heap} (hnb : nb = bl) (hpo : po = bs)
 (hy : ∀ (LB BB : Blk) (_ : loopB l1 ps asg bd = LB) (_ : busyB l1 ps asg bd = BB) (j : Nat) (V : Heap) (d : DigV),EvI σ s0 line base lo rb pr bl bs LB (slAV k (s0.map StoredV.cells)) j V → (ordP σ s0 s0.length [])[j]? = some d →
  CallW Tryz.prog C base (.yld bl) [.agg d.cells,slAV (nlK (keepP s0 ((ordP σ s0 s0.length []).take (j + 1)))) ((keepP s0 ((ordP σ s0 s0.length []).take (j + 1))).map StoredV.cells)] V fun v V' => v = .bool true ∧ EvI σ s0 line base lo rb pr bl bs LB (slAV k (s0.map StoredV.cells)) (j + 1) V')
 (h0 : EvI σ s0 line base lo rb pr bl bs (loopB l1 ps asg bd) (slAV k (s0.map StoredV.cells)) 0 (X ++ [loopB l1 ps asg bd])) (K : AV → Heap → Prop)
 (hK : ∀ V,EvI σ s0 line base lo rb pr bl bs (loopB l1 ps asg bd) (slAV k (s0.map StoredV.cells)) (ordP σ s0 s0.length []).length V → K (.tup []) V) :
 FuncW Tryz.prog C base 52 [.yld nb,.ptr po 0 1 0 0] (X ++ [loopB l1 ps asg bd]) K := by
 subst hnb; subst hpo
 refine pre_walk S (k := k) hs (I := EvI σ s0 line base lo rb pr nb po (loopB l1 ps asg bd) (slAV k (s0.map StoredV.cells))) (fun j X L h => h.app L) ?_ ?_ h0 K hK
 ·rintro j X ⟨h1,_,h3,_⟩
  exact ⟨by have := h1.low; omega,h3⟩
 ·intro j V d h hd
  exact hy _ _ rfl rfl j V d h hd
set_option maxRecDepth 100000 in
set_option maxHeartbeats 8000000 in
theorem ret_Events (S : SettingT C σ) (s0 : List StoredV) (k : SK) (line : IdV) (hs : SetGood s0) (h8 : s0.length ≤ 8) : Ret Tryz.prog C 7 [] [slAV k (s0.map StoredV.cells),.agg line.cells]
 (if findE σ s0 line 5 = 0 then .tup [slAV (nlK (eventsP σ s0 line)) ((eventsP σ s0 line).map EvV.cells),.int .i64 0] else .tup [.nils,.int .i64 (findE σ s0 line 5)]) := by
 refine ret_pure (S.pureT _ (by decide)) fun H => func_rule Tryz.func7 rfl (S.prim _ (by decide)) (by simp) (by kernel_rfl) ?_
 unfold Tryz.f7
 have ef := (ret_bfind S s0 k line 5 hs).eq
 obtain ⟨v,hv⟩ : ∃ v,v = slAV k (s0.map StoredV.cells) := ⟨_,rfl⟩
 have hvl : v.leaf = true := by rw [hv]; simp
 have hvc : v.cells = [v] := by rw [hv]; simp
 have ep := fun (X : Heap) (K : AV → Heap → Prop) => prefixes_eq S v hvl hvc (base := H.length) (H := X) K
 rw [← hv] at ef ⊢
 refine cut (fun s X => s 0 = v ∧ s 3 = .ptr H.length 0 33 0 0 ∧ X = H ++ [.rows 33 0 [line.cells]]) ?_ ?_
 ·simp [argS]
 rintro s X ⟨q0,q3,rfl⟩
 by_cases he : findE σ s0 line 5 = 0
 rotate_left
 ·rw [if_neg he]
  simp [q0,q3,ef,he]
  exact freeze_two (by simp) (by simp)
 rw [if_pos he]
 refine cut (fun s X => s 0 = v ∧ s 3 = .ptr H.length 0 33 0 0 ∧ X = H ++ [.rows 33 0 [line.cells]]) ?_ ?_
 ·simp [q0,q3,ef,he]
 clear q0 q3
 rintro s X ⟨q0,q3,rfl⟩
 refine cut (fun s X => s 0 = v ∧ ∃ rb pr,s 7 = .ptr pr 0 1 0 0 ∧ X = H ++ [.rows 33 0 [line.cells],.rows 36 0 [line.cells ++ [.bool false,.bool false,.nils]],.rows 1 0 [[.ptr (H.length + 1) 0 36 0 0]]] ∧ rb = H.length + 1 ∧ pr = H.length + 2) ?_ ?_
 ·simp [q0,q3,storeA,fillA,rec_z,rec_l]
 clear q0 q3
 rintro s X ⟨q0,rb,pr,q7,rfl,hrb,hpr⟩
 obtain ⟨X0,hX0⟩ : ∃ X0,X0 = H ++ [.rows 33 0 [line.cells],.rows 36 0 [line.cells ++ [.bool false,.bool false,.nils]],.rows 1 0 [[.ptr (H.length + 1) 0 36 0 0]]] := ⟨_,rfl⟩
 have hX0l : X0.length = H.length + 3 := by rw [hX0]; simp
 have hpr0 : blkRow X0 pr 0 1 0 = some [.ptr rb 0 36 0 0] := by rw [hX0,hpr,hrb]; simp [blkRow]
 have hrb0 : X0[rb]? = some (.rows 36 0 [line.cells ++ [.bool false,.bool false,.nils]]) := by rw [hX0,hrb]; simp
 have hR0 : ∀ L,Rec H.length X0.length rb line false false [] (X0 ++ L) := fun L => ⟨⟨.nils,by rw [List.getElem?_append_left (by omega)]; exact hrb0,⟨by simp,.inl ⟨rfl,rfl⟩⟩,.inl ⟨rfl,rfl⟩⟩,by omega,by omega,by omega,by simp⟩
 rw [← hX0]
 clear hX0
 refine cut (fun s X => s 7 = .ptr pr 0 1 0 0 ∧ blkRow X pr 0 1 0 = some [.ptr rb 0 36 0 0] ∧ RecE H.length X0.length rb line (eventsP σ s0 line) X) ?_ ?_
 rotate_left
 ·rintro s X ⟨q7,hp,th,al,hR⟩
  obtain ⟨v',hr,hv'⟩ := hR.row'
  have hf := hv'.1.freezeAt (d := 1) (k := H.length) (by omega) (closedss_map EvV.closed _) (by simpa using hv'.2)
  have hk : nlK ((eventsP σ s0 line).map EvV.cells) = nlK (eventsP σ s0 line) := by unfold nlK; cases eventsP σ s0 line <;> rfl
  rw [hk] at hf
  simp [q7,hp,hr]
  exact freeze_two hf (by simp)
 refine cut (fun s X => s 7 = .ptr pr 0 1 0 0 ∧ s 20 = .fn 52 [.ptr X0.length 0 1 0 0] ∧ X = X0 ++ [.rows 1 0 [[v]]]) ?_ ?_
 ·simp [q0,q7,ep]
 clear q0 q7
 rintro s X ⟨q7,q20,rfl⟩
 rw [wp_block,wp_range]
 refine range_rule (f := 52) (caps := [.ptr X0.length 0 1 0 0]) (by simp [q20]) fun l1 hr1 => ?_
 refine ev_range S (k := k) (base := H.length) (lo := X0.length) (rb := rb) (pr := pr) (bl := X0.length + 1) (bs := X0.length) hs h8 (line := line) (by simp) rfl ?_ ?_ _ ?_
 ·rw [← hv]
  rintro LB BB hLB hBB j V d ⟨hR,hbl,hbs,hpp⟩ hd
  have hLr : ∀ sz g rs,LB ≠ .rows sz g rs := by intro sz g rs h; rw [← hLB] at h; cases h
  have hBr : ∀ sz g rs,BB ≠ .rows sz g rs := by intro sz g rs h; rw [← hBB] at h; cases h
  obtain ⟨L,hL⟩ : ∃ L,L = ordP σ s0 s0.length [] := ⟨_,rfl⟩
  have hlow := hR.low
  have hblV : X0.length + 1 < V.length := (List.getElem?_eq_some_iff.1 hbl).1
  have hRW := hR.setO (x := BB) hbl (hLr 66) (by omega)
  obtain ⟨W,hW⟩ : ∃ W,W = V.set (X0.length + 1) BB ++ [Blk.rows 32 0 [d.cells]] := ⟨_,rfl⟩
  have hRW2 := hRW.app [Blk.rows 32 0 [d.cells]]
  rw [← hW] at hRW2
  have hWl : W.length = V.length + 1 := by rw [hW]; simp
  have hLl : L.length ≤ 8 := by rw [hL]; have := ordP_len (σ := σ) s0 s0.length []; simp at this; omega
  have hj : j < L.length := by rw [hL]; exact (List.getElem?_eq_some_iff.1 hd).1
  rw [← hL] at hd hRW2 ⊢
  unfold EvI
  rw [← hL]
  have hst : recP σ s0 line L (j + 1) = stepR σ line (recP σ s0 line L j) d (keepP s0 (L.take (j + 1))) := by
   conv => lhs; unfold recP
   rw [hd]
  have hrl := recP_len σ s0 line L j
  obtain ⟨Z,hRZ,hkZ,es⟩ := step_ex S hRW2 (by omega) d (kp := nlK (keepP s0 (L.take (j + 1)))) (part := keepP s0 (L.take (j + 1))) (keepP_good hs _) (Nat.le_trans (List.length_filter_le _ _) h8)
  rw [← hst] at hRZ
  obtain ⟨w,hw⟩ : ∃ w,w = slAV (nlK (keepP s0 (L.take (j + 1)))) ((keepP s0 (L.take (j + 1))).map StoredV.cells) := ⟨_,rfl⟩
  have hwl : w.leaf = true := by rw [hw]; simp
  have hwc : w.cells = [w] := by rw [hw]; simp
  rw [← hw] at es ⊢
  have hWb : W[X0.length + 1]? = some BB := by rw [hW,List.getElem?_append_left (by simpa using hblV),List.getElem?_set_self hblV]
  have hZb : Z[X0.length + 1]? = some BB := hkZ.2 _ _ (by omega) hWb (hBr 66)
  have hZl : X0.length + 1 < Z.length := (List.getElem?_eq_some_iff.1 hZb).1
  have hup : ∀ {b : Nat} {r : List AV},b ≠ X0.length + 1 → blkRow V b 0 1 0 = some r → blkRow W b 0 1 0 = some r := fun {b r} hb h => by
   rw [hW]; refine blk_app ?_ _
   unfold blkRow at h ⊢
   rw [List.getElem?_set_ne (Ne.symm hb)]; exact h
  have hdn : ∀ {b : Nat} {r : List AV},b ≠ X0.length + 1 → b ≠ rb → blkRow V b 0 1 0 = some r → blkRow (Z.set (X0.length + 1) LB) b 0 1 0 = some r := fun {b r} hb hb2 h => by
   have h2 := blk_keep hkZ hb2 (by decide) (hup hb h)
   unfold blkRow at h2 ⊢
   rw [List.getElem?_set_ne (Ne.symm hb)]; exact h2
  have hppW := hup (by omega) hpp
  have hdW : blkRow W V.length 0 32 0 = some d.cells := by rw [hW]; simp [blkRow]
  have hbV : H.length ≤ V.length := by omega
  have hgl : ∀ M,(V ++ M)[X0.length + 1]? = some LB := fun M => by rw [List.getElem?_append_left hblV]; exact hbl
  have hsl : (V ++ [Blk.rows 32 0 [d.cells]]).set (X0.length + 1) BB = W := by rw [hW]; exact List.set_append_left _ _ hblV
  refine yield_rule hr1 (hget := by rw [hLB]; exact hbl) (by omega) rfl (by decide) (by kernel_rfl) (by kernel_rfl) ?_
  rw [hLB,hBB]
  simp [q7,storeA,fillA,hbV,hgl,hsl,hppW,hdW,es,show digest0.length = 32 by decide,show List.drop 32 (dig digest0) = [] by decide,hLB]
  exact ⟨hZb,rfl,hRZ.setO hZb (hBr 66) (by omega),by rw [List.getElem?_set_self hZl],hdn (by omega) (by omega) hbs,hdn (by omega) (by omega) hpp⟩
 ·rw [← hv]
  exact ⟨by rw [List.append_assoc]; exact hR0 _,by simp [hX0l],by rw [List.append_assoc]; simp [blkRow],by rw [List.append_assoc]; exact blk_app hpr0 _⟩
 ·rintro V ⟨hR,hbl,hbs,hpp⟩
  have hlen : (X0 ++ [Blk.rows 1 0 [[v]]]).length = X0.length + 1 := by simp
  have hR2 := hR.setO (x := .dead) hbl (by intro g rs h; cases h) (by omega)
  rw [hlen,afterR_loop hbl]
  simp
  refine ⟨q7,?_,_,_,hR2⟩
  unfold blkRow at hpp ⊢
  rw [List.getElem?_set_ne (by omega)]; exact hpp
end Go.Proofs.Ev
namespace Go.Proofs.Ev
open Go.Proofs
variable {C : Cfg} {σ : Sorts}
theorem any_take {α : Type} (p : α → Bool) (l : List α) {i : Nat} (h : i < l.length) (h0 : (l.take i).any p = false) : (l.take (i + 1)).any p = p l[i] := by
 rw [List.take_add_one,List.getElem?_eq_getElem h,List.any_append,h0]; simp
set_option maxHeartbeats 2000000 in
theorem ret_In (S : SettingT C σ) (l : List IdV) (k : SK) (id : IdV) (hl : l.length ≤ 2 ^ 20) : Ret Tryz.prog C 9 [] [slAV k (l.map IdV.cells),.agg id.cells] (.bool (l.any fun x => sameId x id)) := by
 refine ret_pure (S.pureT _ (by decide)) fun H => func_rule Tryz.func9 rfl (S.prim _ (by decide)) (by simp) (by kernel_rfl) ?_
 unfold Tryz.f9
 have e := eq_idV S.toSetting
 refine cut (fun s X => s 0 = slAV k (l.map IdV.cells) ∧ s 3 = .ptr H.length 0 33 0 0 ∧ X = H ++ [.rows 33 0 [id.cells]]) ?_ ?_
 ·simp [argS]
 rintro s X ⟨q0,q3,rfl⟩
 simp [q0,q3]
 refine loop_count l.length (fun i s X => s 0 = slAV k (l.map IdV.cells) ∧ s 3 = .ptr H.length 0 33 0 0 ∧ s 5 = .int .i64 i ∧ X = H ++ [.rows 33 0 [id.cells]] ∧ (l.take i).any (fun x => sameId x id) = false) ?_ ?_
 ·exact ⟨q0,q3,rfl,rfl,rfl⟩
 clear q0 q3
 rintro i s X ⟨q0,q3,q5,rfl,hn⟩ hi
 by_cases h : i < l.length
 ·have hh := any_take (fun x => sameId x id) l h hn
  cases hs : sameId l[i] id with
  | true =>
   have hr : (l.any fun x => sameId x id) = true := List.any_eq_true.2 ⟨l[i],by simp,hs⟩
   simp [q0,q3,q5,h,e,hs,hr]
  | false =>
   rw [hs] at hh
   simp [q0,q3,q5,h,e,hs,wrap_succ h (by omega)]
   exact fun x hx => by simpa using List.any_eq_false.1 hh x hx
 ·have h' : i = l.length := by omega
  subst h'
  rw [List.take_length] at hn
  simp [q0,q3,q5,hn]
end Go.Proofs.Ev
namespace Go.Proofs.Ev
open Go.Proofs
variable {C : Cfg} {σ : Sorts}
def wantE (i : Nat) : Int := if i = 0 then 1 else if i % 2 = 1 then 2 else 3
structure EvFacts (σ : Sorts) (s : List StoredV) (id : IdV) : Prop where
 ne : eventsP σ s id ≠ []
 n : (eventsP σ s id).length ≤ 2 ^ 20
 e : ∀ (i : Nat) (h : i < (eventsP σ s id).length),(eventsP σ s id)[i].kind = wantE i ∧ (wantE i ≠ 2 → (eventsP σ s id)[i].id = id) ∧ (wantE i = 2 → ∃ y,findP σ s (eventsP σ s id)[i].id = some y ∧ y.over.any (fun x => sameId x id) = true ∧ y.over.length ≤ 2 ^ 20)
 a : ∀ h,aliveP σ s id = decide (((eventsP σ s id)[(eventsP σ s id).length - 1]'h).kind ≠ 2)
theorem same_id (x : IdV) : sameId x x = true := by simp [sameId]
theorem bin_eqlb (a b : Bool) : binA Tryz.prog C .eql 4 (.bool a) (.bool b) = some (.bool (a == b)) := by
 cases a <;> cases b <;> simp [binA,eqA]
theorem rem_two (i : Nat) (h : i ≤ 2 ^ 40) : binA Tryz.prog C .rem 3 (.int .i64 i) (.int .i64 2) = some (.int .i64 ((i % 2 : Nat) : Int)) := by
 simp [binA]
 exact Int.tmod_eq_emod_of_nonneg (by omega)
theorem ev_kind (e : EvV) : e.cells.head? = some (.int .i64 e.kind) := rfl
theorem ev_id (e : EvV) : (e.cells.drop 33).take 33 = e.id.cells := by
 have h1 : e.cells.drop 33 = e.id.cells := by
  have h : e.cells = (.int .i64 e.kind :: e.patch.cells) ++ e.id.cells := by simp [EvV.cells]
  rw [h,drop_skip (n := 33) (by simp) (by decide)]; rfl
 rw [h1]; simp
set_option maxRecDepth 100000 in
set_option maxHeartbeats 8000000 in
theorem law_walk (S : SettingT C σ) (hAw : Ret Tryz.prog C 6 [] [] (.bool true)) {s0 : List StoredV} {k : SK} {id : IdV} (hz : SetSz s0)
 (hf : fineB s0 = true → SetGood s0 ∧ s0.length ≤ 8 ∧ (findE σ s0 id 5 = 0 → EvFacts σ s0 id)) (base : Nat) (H : Heap) (hb : base ≤ H.length) : FuncW Tryz.prog C base 3 [slAV k (s0.map StoredV.cells),.agg id.cells] H fun v _ => v = .bool true := by
 refine func_rule Tryz.func3 rfl (S.prim _ (by decide)) (by simp) (by kernel_rfl) ?_
 unfold Tryz.f3
 have eA := hAw.eq
 have hb1 : base ≤ H.length + 1 := by omega
 have e1 := (ret_fine S.toSetting8 s0 k hz).eq
 obtain ⟨v,hv⟩ : ∃ v,v = slAV k (s0.map StoredV.cells) := ⟨_,rfl⟩
 refine cut (fun s X => s 0 = v ∧ s 3 = .ptr H.length 0 33 0 0 ∧ X = H ++ [.rows 33 0 [id.cells]]) ?_ ?_
 ·rw [← hv]; simp [argS]
 rintro s X ⟨q0,q3,rfl⟩
 rw [← hv] at e1
 cases hfine : fineB s0 with
 | false =>
  rw [hfine] at e1
  simp [q0,q3,e1,eA]
 | true =>
  rw [hfine] at e1
  obtain ⟨hs,h8,hF⟩ := hf hfine
  have e2 := (ret_Events S s0 k id hs h8).eq
  have e4 := (ret_Find S.toSettingS s0 k id hs).eq
  have e5 := (ret_Alive S s0 k id hs h8).eq
  have e6 := fun y => (ret_Find S.toSettingS s0 k y hs).eq
  rw [← hv] at e2 e4 e5 e6
  refine cut (fun s X => s 0 = v ∧ s 3 = .ptr H.length 0 33 0 0 ∧ X = H ++ [.rows 33 0 [id.cells]]) ?_ ?_
  ·simp [q0,q3,e1]
  clear q0 q3
  rintro s X ⟨q0,q3,rfl⟩
  by_cases hE : findE σ s0 id 5 = 0
  rotate_left
  ·rw [if_neg hE] at e2
   unfold findE at hE e2
   cases hfi : findP σ s0 id with
   | none =>
    rw [hfi] at e2 e4 hE
    simp only [Option.getD_none,Option.isSome_none] at e4
    simp [q0,q3,e2,e4,eA,hb1,storeA,fillA,guardV]
   | some x =>
    rw [hfi] at e2 e4 hE
    simp only [Option.getD_some,Option.isSome_some] at e4 e2 hE
    have hk : x.kind ≠ 5 := fun h => hE (by rw [if_pos h])
    rw [if_neg hk] at e2
    have hkb : (x.kind != 5) = true := by simpa using hk
    simp [q0,q3,e2,e4,eA,hb1,storeA,fillA,guardV,hkb]
  have hx : ∃ x,findP σ s0 id = some x ∧ x.kind = 5 := by
   unfold findE at hE
   cases hfi : findP σ s0 id with
   | none => rw [hfi] at hE; cases hE
   | some x =>
    rw [hfi] at hE
    simp only at hE
    by_cases hk : x.kind = 5
    ·exact ⟨x,rfl,hk⟩
    ·rw [if_neg hk] at hE; cases hE
  obtain ⟨x,hfi,hk5⟩ := hx
  rw [if_pos hE] at e2
  rw [hfi] at e4
  simp only [Option.getD_some,Option.isSome_some] at e4
  have F := hF hE
  obtain ⟨ev,hev⟩ : ∃ ev,ev = eventsP σ s0 id := ⟨_,rfl⟩
  have F0 := F.ne
  have Fn := F.n
  have Fe := F.e
  have Fa := F.a
  rw [← hev] at F0 Fn e2
  simp only [← hev] at Fe Fa
  have hlen0 : ¬ (ev.length : Int) = 0 := by have := List.length_pos_iff.2 F0; omega
  refine cut (fun s X => s 0 = v ∧ s 3 = .ptr H.length 0 33 0 0 ∧ s 5 = slAV (nlK ev) (ev.map EvV.cells) ∧ s 6 = .int .i64 0 ∧ X = H ++ [.rows 33 0 [id.cells]]) ?_ ?_
  ·simp [q0,q3,e2]
  clear q0 q3
  rintro s X ⟨q0,q3,q5,q6,rfl⟩
  refine cut (fun s X => s 0 = v ∧ s 3 = .ptr H.length 0 33 0 0 ∧ s 5 = slAV (nlK ev) (ev.map EvV.cells) ∧ s 6 = .int .i64 0 ∧ s 7 = .ptr (H.length + 1) 0 172 0 0 ∧ s 8 = .bool true ∧ X = H ++ [.rows 33 0 [id.cells],.rows 172 0 [x.cells]]) ?_ ?_
  ·simp [q0,q3,q5,q6,e4,hb1,storeA,fillA]
  clear q0 q3 q5 q6
  rintro s X ⟨q0,q3,q5,q6,q7,q8,rfl⟩
  refine cut (fun s X => s 0 = v ∧ s 3 = .ptr H.length 0 33 0 0 ∧ s 5 = slAV (nlK ev) (ev.map EvV.cells) ∧ s 7 = .ptr (H.length + 1) 0 172 0 0 ∧ s 8 = .bool true ∧ X = H ++ [.rows 33 0 [id.cells],.rows 172 0 [x.cells]]) ?_ ?_
  ·simp [q0,q3,q5,q6,q7,q8]
  clear q0 q3 q5 q6 q7 q8
  rintro s X ⟨q0,q3,q5,q7,q8,rfl⟩
  refine cut (fun s X => s 0 = v ∧ s 3 = .ptr H.length 0 33 0 0 ∧ s 5 = slAV (nlK ev) (ev.map EvV.cells) ∧ X = H ++ [.rows 33 0 [id.cells],.rows 172 0 [x.cells]]) ?_ ?_
  ·simp [q0,q3,q5,q7,q8,guardV,hk5,hlen0,F0]
  clear q0 q3 q5 q7 q8
  rintro s X ⟨q0,q3,q5,rfl⟩
  obtain ⟨X0,hX0⟩ : ∃ X0,X0 = H ++ [.rows 33 0 [id.cells],.rows 172 0 [x.cells]] := ⟨_,rfl⟩
  rw [← hX0]
  have hid : ∀ L,blkRow (X0 ++ L) H.length 0 33 0 = some id.cells := fun L => by rw [hX0,List.append_assoc]; simp [blkRow]
  have hX0l : X0.length = H.length + 2 := by rw [hX0]; simp
  refine cut (fun s X => s 0 = v ∧ s 3 = .ptr H.length 0 33 0 0 ∧ s 5 = slAV (nlK ev) (ev.map EvV.cells) ∧ ∃ L,X = X0 ++ L) ?_ ?_
  rotate_left
  ·rintro s X ⟨q0,q3,q5,L,rfl⟩
   have hid := hid L
   have hp := List.length_pos_iff.2 F0
   obtain ⟨jl,hjl⟩ : ∃ jl,jl = ev.length - 1 := ⟨_,rfl⟩
   have w1 : IntKind.i64.wrap ((ev.length : Int) - 1) = (jl : Int) := by rw [wrap_in (by omega) (by omega)]; omega
   have hjn : jl < ev.length := by omega
   have e5 := fun base H K => e5 base H K
   simp only [Fa (by omega),← hjl] at e5
   obtain ⟨el,hel⟩ : ∃ el,el = ev[jl] := ⟨_,rfl⟩
   rw [← hel] at e5
   have hi : (0 : Int) ≤ (jl : Int) := by omega
   have hkd := ev_kind el
   have eb := fun a b => bin_eqlb (C := C) a b
   have hbn : (el.kind != 2) = decide (el.kind ≠ 2) := by rw [Bool.eq_iff_iff]; simp
   simp [q0,q3,q5,hid,e5,guardV,w1,hjn,hi,← hel,hkd,eb,hbn,eA]
  simp [q0,q3,q5]
  refine loop_count ev.length (fun i s X => s 0 = v ∧ s 3 = .ptr H.length 0 33 0 0 ∧ s 5 = slAV (nlK ev) (ev.map EvV.cells) ∧ s 70 = slAV (nlK ev) (ev.map EvV.cells) ∧ s 71 = .int .i64 ev.length ∧ s 72 = .int .i64 i ∧ ∃ L,X = X0 ++ L) ?_ ?_
  ·exact ⟨q0,q3,q5,rfl,rfl,rfl,[],by simp⟩
  clear q0 q3 q5
  rintro i s X ⟨q0,q3,q5,q70,q71,q72,L,rfl⟩ hi
  by_cases h : i < ev.length
  rotate_left
  ·have h' : i = ev.length := by omega
   subst h'
   simp [q0,q3,q5,q70,q71,q72]
  have hid := fun M => hid (L ++ M)
  simp only [← List.append_assoc] at hid
  obtain ⟨Y,hY⟩ : ∃ Y,Y = X0 ++ L := ⟨_,rfl⟩
  rw [← hY] at hid ⊢
  have hYl : base ≤ Y.length := by rw [hY]; simp; omega
  obtain ⟨e,he⟩ : ∃ e,e = ev[i] := ⟨_,rfl⟩
  have Fe := Fe i h
  rw [← he] at Fe
  obtain ⟨f1,f2,f3⟩ := Fe
  have hem : ∀ M,blkRow (Y ++ Blk.rows 66 0 [e.cells] :: M) Y.length 0 66 0 = some e.cells := fun M => by simp [blkRow]
  have hYL : ∀ M,∃ L,Y ++ M = X0 ++ L := fun M => ⟨L ++ M,by rw [hY,List.append_assoc]⟩
  have hd0 : digest0.length = 32 := by decide
  have hdr : List.drop 65 (dig digest0 ++ zeroId.cells) = [] := by decide
  have hkd := ev_kind e
  have hidc := ev_id e
  refine cut (fun s X => s 0 = v ∧ s 3 = .ptr H.length 0 33 0 0 ∧ s 5 = slAV (nlK ev) (ev.map EvV.cells) ∧ s 70 = slAV (nlK ev) (ev.map EvV.cells) ∧ s 71 = .int .i64 ev.length ∧ s 72 = .int .i64 i ∧ s 73 = .bool true ∧ X = Y) ?_ ?_
  ·simp [q0,q3,q5,q70,q71,q72,h]
  clear q0 q3 q5 q70 q71 q72
  rintro s X ⟨q0,q3,q5,q70,q71,q72,q73,hXY⟩
  rw [hXY]; clear hXY X
  refine cut (fun s X => s 0 = v ∧ s 3 = .ptr H.length 0 33 0 0 ∧ s 5 = slAV (nlK ev) (ev.map EvV.cells) ∧ s 70 = slAV (nlK ev) (ev.map EvV.cells) ∧ s 71 = .int .i64 ev.length ∧ s 72 = .int .i64 i ∧ X = Y) ?_ ?_
  ·simp [q0,q3,q5,q70,q71,q72,q73]
  clear q0 q3 q5 q70 q71 q72 q73
  rintro s X ⟨q0,q3,q5,q70,q71,q72,hXY⟩
  rw [hXY]; clear hXY X
  refine cut (fun s X => s 0 = v ∧ s 3 = .ptr H.length 0 33 0 0 ∧ s 5 = slAV (nlK ev) (ev.map EvV.cells) ∧ s 70 = slAV (nlK ev) (ev.map EvV.cells) ∧ s 71 = .int .i64 ev.length ∧ s 72 = .int .i64 i ∧ ∃ L,X = X0 ++ L) ?_ ?_
  rotate_left
  ·rintro s X ⟨q0,q3,q5,q70,q71,q72,hX⟩
   have w := wrap_succ h (by omega)
   simp [q0,q3,q5,q70,q71,q72,w]
   exact ⟨h,hX⟩
  rw [wp_block]
  refine cut (fun s X => s 0 = v ∧ s 3 = .ptr H.length 0 33 0 0 ∧ s 5 = slAV (nlK ev) (ev.map EvV.cells) ∧ s 70 = slAV (nlK ev) (ev.map EvV.cells) ∧ s 71 = .int .i64 ev.length ∧ s 72 = .int .i64 i ∧ s 9 = .int .i64 i ∧ s 10 = .ptr Y.length 0 66 0 0 ∧ X = Y ++ [.rows 66 0 [e.cells]]) ?_ ?_
  ·simp [q0,q3,q5,q70,q71,q72,h,← he,storeA,fillA,hd0,hdr,hYl]
  clear q0 q3 q5 q70 q71 q72
  rintro s X ⟨q0,q3,q5,q70,q71,q72,q9,q10,rfl⟩
  refine cut (fun s X => s 0 = v ∧ s 3 = .ptr H.length 0 33 0 0 ∧ s 5 = slAV (nlK ev) (ev.map EvV.cells) ∧ s 70 = slAV (nlK ev) (ev.map EvV.cells) ∧ s 71 = .int .i64 ev.length ∧ s 72 = .int .i64 i ∧ s 9 = .int .i64 i ∧ s 10 = .ptr Y.length 0 66 0 0 ∧ s 11 = .int .i64 3 ∧ X = Y ++ [.rows 66 0 [e.cells]]) ?_ ?_
  ·simp [q0,q3,q5,q70,q71,q72,q9,q10]
  clear q0 q3 q5 q70 q71 q72 q9 q10
  rintro s X ⟨q0,q3,q5,q70,q71,q72,q9,q10,q11,rfl⟩
  refine cut (fun s X => s 0 = v ∧ s 3 = .ptr H.length 0 33 0 0 ∧ s 5 = slAV (nlK ev) (ev.map EvV.cells) ∧ s 70 = slAV (nlK ev) (ev.map EvV.cells) ∧ s 71 = .int .i64 ev.length ∧ s 72 = .int .i64 i ∧ s 10 = .ptr Y.length 0 66 0 0 ∧ s 11 = .int .i64 (wantE i) ∧ X = Y ++ [.rows 66 0 [e.cells]]) ?_ ?_
  ·by_cases hi0 : i = 0
   ·subst hi0
    have hw : wantE 0 = 1 := rfl
    simp [q0,q3,q5,q70,q71,q72,q9,q10,q11,hw]
   ·have hi0' : ¬ (i : Int) = 0 := by omega
    have hrem : binA Tryz.prog C .rem 3 (.int .i64 i) (.int .i64 2) = some (.int .i64 ((i % 2 : Nat) : Int)) := rem_two i (by omega)
    by_cases h2 : i % 2 = 1
    ·have hw : wantE i = 2 := by simp [wantE,hi0,h2]
     have h2' : ((i % 2 : Nat) : Int) = 1 := by omega
     rw [h2'] at hrem
     simp [q0,q3,q5,q70,q71,q72,q9,q10,q11,hw,hi0',hrem,hi0]
    ·have hw : wantE i = 3 := by simp [wantE,hi0,h2]
     have h2' : ((i % 2 : Nat) : Int) = 0 := by omega
     rw [h2'] at hrem
     simp [q0,q3,q5,q70,q71,q72,q9,q10,q11,hw,hi0',hrem,hi0]
  clear q0 q3 q5 q70 q71 q72 q9 q10 q11
  rintro s X ⟨q0,q3,q5,q70,q71,q72,q10,q11,rfl⟩
  have hem0 := hem []
  refine cut (fun s X => s 0 = v ∧ s 3 = .ptr H.length 0 33 0 0 ∧ s 5 = slAV (nlK ev) (ev.map EvV.cells) ∧ s 70 = slAV (nlK ev) (ev.map EvV.cells) ∧ s 71 = .int .i64 ev.length ∧ s 72 = .int .i64 i ∧ s 10 = .ptr Y.length 0 66 0 0 ∧ s 11 = .int .i64 (wantE i) ∧ X = Y ++ [.rows 66 0 [e.cells]]) ?_ ?_
  ·by_cases hw2 : wantE i = 2
   ·rw [hw2] at f1 q11 ⊢
    simp [q0,q3,q5,q70,q71,q72,q10,q11,hem,hkd,f1,guardV]
   ·have hw2' : (wantE i != 2) = true := by simpa using hw2
    have hide := f2 hw2
    have en := ne_of_eq (eq_idV S.toSetting id id)
    rw [same_id] at en
    rw [hide] at hidc
    simp [q0,q3,q5,q70,q71,q72,q10,q11,hem,hkd,f1,guardV,hw2',hidc,hid,en]
  clear q0 q3 q5 q70 q71 q72 q10 q11
  rintro s X ⟨q0,q3,q5,q70,q71,q72,q10,q11,rfl⟩
  by_cases hw2 : wantE i = 2
  rotate_left
  ·simp [q0,q3,q5,q70,q71,q72,q10,q11,hw2]
   exact hYL _
  ·obtain ⟨y,hy1,hy2,hyo⟩ := f3 hw2
   rw [hw2] at q11
   have ey := e6 e.id
   rw [hy1] at ey
   simp only [Option.getD_some,Option.isSome_some] at ey
   have ei := (ret_In S y.over y.overK id hyo).eq
   rw [hy2] at ei
   refine cut (fun s X => s 0 = v ∧ s 3 = .ptr H.length 0 33 0 0 ∧ s 5 = slAV (nlK ev) (ev.map EvV.cells) ∧ s 70 = slAV (nlK ev) (ev.map EvV.cells) ∧ s 71 = .int .i64 ev.length ∧ s 72 = .int .i64 i ∧ s 10 = .ptr Y.length 0 66 0 0 ∧ s 97 = .bool true ∧ X = Y ++ [.rows 66 0 [e.cells]]) ?_ ?_
   ·simp [q0,q3,q5,q70,q71,q72,q10,q11]
   clear q0 q3 q5 q70 q71 q72 q10 q11
   rintro s X ⟨q0,q3,q5,q70,q71,q72,q10,q97,rfl⟩
   have hbY : base ≤ Y.length + 1 := by omega
   simp [q0,q3,q5,q70,q71,q72,q10,q97,hem,hidc,ey,storeA,fillA,hbY,guardV,hid,ei]
   exact hYL _
end Go.Proofs.Ev
namespace Go.Proofs.Ev
open Go.Proofs
variable {σ : Sorts}
def KlAt (σ : Sorts) (s : List StoredV) (line z : IdV) : Prop := ∃ y,findP σ s z = some y ∧ y.over.any (fun x => sameId x line) = true ∧ y.over.length ≤ 2 ^ 20
def EvAt (σ : Sorts) (s : List StoredV) (line : IdV) (i : Nat) (e : EvV) : Prop := e.kind = wantE i ∧ (wantE i ≠ 2 → e.id = line) ∧ (wantE i = 2 → KlAt σ s line e.id)
def EvAll (σ : Sorts) (s : List StoredV) (line : IdV) (ev : List EvV) : Prop := ∀ (i : Nat) (e : EvV),ev[i]? = some e → EvAt σ s line i e
theorem EvAll.snoc {s : List StoredV} {line : IdV} {ev : List EvV} {e : EvV} (h : EvAll σ s line ev) (he : EvAt σ s line ev.length e) : EvAll σ s line (ev ++ [e]) := by
 intro i x hx
 rcases Nat.lt_trichotomy i ev.length with hi | hi | hi
 ·rw [List.getElem?_append_left hi] at hx; exact h i x hx
 ·subst hi
  simp at hx; subst hx; exact he
 ·rw [List.getElem?_eq_none (by simp; omega)] at hx; cases hx
structure EvOk (σ : Sorts) (s : List StoredV) (line : IdV) (a : (Bool × Bool) × List EvV) : Prop where
 no : a.1.1 = false → a.2 = []
 yes : a.1.1 = true → a.2 ≠ [] ∧ a.1.2 = decide (a.2.length % 2 = 1)
 all : EvAll σ s line a.2
theorem want_odd {n : Nat} (h : n % 2 = 1) : wantE n = 2 := by unfold wantE; rw [if_neg (by omega),if_pos h]
theorem want_even {n : Nat} (h : n % 2 = 0) (h0 : n ≠ 0) : wantE n = 3 := by unfold wantE; rw [if_neg h0,if_neg (by omega)]
theorem stepR_ok {s : List StoredV} {line : IdV} {a : (Bool × Bool) × List EvV} (h : EvOk σ s line a) (d : DigV) {part : List StoredV} (hk : ∀ z ∈ killersP σ part line,KlAt σ s line z) :
 EvOk σ s line (stepR σ line a d part) ∧ (stepR σ line a d part).1.1 = (a.1.1 || decide (d.d = line.d)) ∧ ((stepR σ line a d part).1.1 = true → (stepR σ line a d part).1.2 = decide ((killersP σ part line).length = 0)) := by
 obtain ⟨⟨th,al⟩,ev⟩ := a
 obtain ⟨h1,h2,h3⟩ := h
 simp only at h1 h2 h3
 obtain ⟨kl,hkl⟩ : ∃ kl,kl = killersP σ part line := ⟨_,rfl⟩
 rw [← hkl] at hk ⊢
 by_cases h0 : th = false ∧ d.d ≠ line.d
 ·have e : stepR σ line ((th,al),ev) d part = ((th,al),ev) := by unfold stepR; rw [if_pos h0]
  rw [e]
  obtain ⟨rfl,hd⟩ := h0
  exact ⟨⟨h1,h2,h3⟩,by simp [hd],by simp⟩
 ·obtain ⟨al2,hal2⟩ : ∃ al2,al2 = (if th then al else true) := ⟨_,rfl⟩
  obtain ⟨ev2,hev2⟩ : ∃ ev2,ev2 = (if th then ev else ev ++ [⟨1,d,line⟩]) := ⟨_,rfl⟩
  have hst : stepR σ line ((th,al),ev) d part = if decide (kl.length = 0) = al2 then ((true,al2),ev2) else ((true,decide (kl.length = 0)),ev2 ++ [if decide (kl.length = 0) then ⟨3,d,line⟩ else ⟨2,d,kl.getD 0 line⟩]) := by
   unfold stepR
   rw [if_neg h0]
   cases th <;> simp [hal2,hev2,hkl]
  have hth : (th || decide (d.d = line.d)) = true := by
   cases th with
   | true => rfl
   | false => simpa using h0
  have hb : ev2 ≠ [] ∧ al2 = decide (ev2.length % 2 = 1) ∧ EvAll σ s line ev2 := by
   cases th with
   | true =>
    simp only [if_true] at hal2 hev2
    subst hal2; subst hev2
    obtain ⟨x1,x2⟩ := h2 rfl
    exact ⟨x1,x2,h3⟩
   | false =>
    have he := h1 rfl
    subst he
    simp at hev2 hal2
    subst hev2; subst hal2
    refine ⟨by simp,by simp,?_⟩
    have := h3.snoc (e := ⟨1,d,line⟩) ⟨rfl,fun _ => rfl,fun hc => by cases hc⟩
    simpa using this
  obtain ⟨b1,b2,b3⟩ := hb
  rw [hst,hth]
  by_cases hal : decide (kl.length = 0) = al2
  ·rw [if_pos hal]
   exact ⟨⟨by simp,fun _ => ⟨b1,b2⟩,b3⟩,rfl,fun _ => hal.symm⟩
  ·rw [if_neg hal]
   refine ⟨⟨by simp,fun _ => ⟨by simp,?_⟩,?_⟩,rfl,fun _ => rfl⟩
   ·simp only [List.length_append,List.length_singleton]
    by_cases hp : ev2.length % 2 = 1
    ·rw [b2,decide_eq_true hp] at hal
     have hq : ¬ (ev2.length + 1) % 2 = 1 := by omega
     rw [decide_eq_false hq]; simpa using hal
    ·rw [b2,decide_eq_false hp] at hal
     have hq : (ev2.length + 1) % 2 = 1 := by omega
     rw [decide_eq_true hq]; simpa using hal
   ·refine b3.snoc ?_
    by_cases hp : ev2.length % 2 = 1
    ·rw [b2,decide_eq_true hp] at hal
     have hn : ¬ kl.length = 0 := by simpa using hal
     rw [if_neg (by simpa using hn)]
     refine ⟨(want_odd hp).symm,fun hc => absurd (want_odd hp) hc,fun _ => hk _ ?_⟩
     have : 0 < kl.length := by omega
     simp [List.getD,this]
    ·rw [b2,decide_eq_false hp] at hal
     have hn : kl.length = 0 := by simpa using hal
     rw [if_pos (by simpa using hn)]
     have h00 : ev2.length ≠ 0 := fun hc => b1 (List.length_eq_zero_iff.1 hc)
     have hw := want_even (n := ev2.length) (by omega) h00
     exact ⟨hw.symm,fun _ => rfl,fun hc => by rw [hw] at hc; cases hc⟩
theorem rec_ok {s : List StoredV} {line : IdV} {L : List DigV} (hk : ∀ n,∀ z ∈ killersP σ (keepP s (L.take n)) line,KlAt σ s line z) : ∀ n,n ≤ L.length → EvOk σ s line (recP σ s line L n) ∧ (recP σ s line L n).1.1 = hasD (L.take n) line.d ∧ ((recP σ s line L n).1.1 = true → (recP σ s line L n).1.2 = decide ((killersP σ (keepP s (L.take n)) line).length = 0))
 | 0,_ => by
  have e : recP σ s line L 0 = ((false,false),[]) := rfl
  rw [e]
  exact ⟨⟨fun _ => rfl,(fun h => by cases h),(fun i e h => by simp at h)⟩,by simp [hasD],fun h => by cases h⟩
 | n + 1,hn => by
  obtain ⟨i1,i2,_⟩ := rec_ok hk n (by omega)
  have hg : L[n]? = some L[n] := List.getElem?_eq_getElem (by omega)
  have e : recP σ s line L (n + 1) = stepR σ line (recP σ s line L n) L[n] (keepP s (L.take (n + 1))) := by
   conv => lhs; unfold recP
   rw [hg]
  obtain ⟨j1,j2,j3⟩ := stepR_ok i1 L[n] (hk (n + 1))
  rw [e]
  refine ⟨j1,?_,j3⟩
  rw [j2,i2]
  unfold hasD
  rw [List.take_add_one,hg,List.any_append]
  simp only [Option.toList_some,List.any_cons,List.any_nil,Bool.or_false]
theorem facts_of {s : List StoredV} {line : IdV} (h8 : s.length ≤ 8) (hk : ∀ n,∀ z ∈ killersP σ (keepP s ((ordP σ s s.length []).take n)) line,KlAt σ s line z) (hcov : hasD (ordP σ s s.length []) line.d = true) (hkeep : keepP s (ordP σ s s.length []) = s) (hf : (findP σ s line).isSome = true) (hi : ∀ l,(σ.i l).Perm l) : EvFacts σ s line := by
 obtain ⟨L,hL⟩ : ∃ L,L = ordP σ s s.length [] := ⟨_,rfl⟩
 have hE : eventsP σ s line = (recP σ s line L L.length).2 := by rw [hL]; rfl
 have hLl : L.length ≤ 8 := by rw [hL]; have := ordP_len (σ := σ) s s.length []; simp at this; omega
 rw [← hL] at hk hcov hkeep
 obtain ⟨⟨_,o2,o3⟩,p2,p3⟩ := rec_ok hk L.length (Nat.le_refl _)
 rw [List.take_length] at p2 p3
 rw [hcov] at p2
 obtain ⟨n1,n2⟩ := o2 p2
 have p3 := p3 p2
 rw [hkeep] at p3
 have hlen := recP_len σ s line L L.length
 rw [← hE] at n1 n2 o3 hlen
 refine ⟨n1,by omega,fun i h => o3 i _ (List.getElem?_eq_getElem h),fun h => ?_⟩
 have hlast := o3 _ _ (List.getElem?_eq_getElem h)
 have ha : aliveP σ s line = decide ((killersP σ s line).length = 0) := by
  unfold aliveP killersP
  rw [hf,if_pos rfl,(hi _).length_eq]; rfl
 rw [ha,← p3,n2,hlast.1]
 have hpos := List.length_pos_iff.2 n1
 by_cases hp : (eventsP σ s line).length % 2 = 1
 ·rw [decide_eq_true hp]
  by_cases h1 : (eventsP σ s line).length - 1 = 0
  ·rw [h1]; rfl
  ·rw [want_even (by omega) h1]; rfl
 ·rw [decide_eq_false hp,want_odd (by omega)]; rfl
end Go.Proofs.Ev
