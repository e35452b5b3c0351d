/- Part 14 of the proof that quiltlaw38.BlameEvents returns true: no statement of its own. -/
import Derived.Test.YtckbkhfaahpanaaGreatDoorE13
import Derived.Lib.SliceRun
import Derived.Test.YtckbkhfaahpanaaGreatDoorE12
set_option linter.all false
namespace Go.Proofs.Ev
open Go.RowKit
variable {P : Program} {C : Cfg} {N : Low} {φ φ' φ0 ψ ψ' : Phi} {H0 : Heap} {w w' w0 : World}
variable {kk base : Nat} {ops : Array Oper} {B : Nat → Nat → Prop} {S : Nat → List AV} {Hp : Nat → Heap} {v : Nat → AV} {c : Nat → Nat}
variable {B0 : Nat} {listed : Array Bool} {p : Nat} {pd : Nat → Option Nat} {a : Act}
theorem put_get_ne {dst : Option Tmp} {V : Value} {t : Tmp} (h : dst ≠ some t) : (a.put dst V).tmps[t]? = a.tmps[t]? := by
 cases dst with
 | none => rfl
 | some d => simp only [Act.put]; exact Array.getElem?_setIfInBounds_ne fun e => h (by rw [e])
theorem put_get {dst : Option Tmp} {V : Value} {t : Tmp} (h : dst = some t) (ht : t < a.tmps.size) : (a.put dst V).tmps[t]? = some V := by
 subst h
 simp only [Act.put]
 rw [Array.getElem?_setIfInBounds_self_of_lt ht]
theorem put_size {dst : Option Tmp} {V : Value} : (a.put dst V).tmps.size = a.tmps.size := by cases dst <;> simp [Act.put]
theorem ready_not {i : Nat} (hi : i ∈ Region.ready .any ops listed) : listed.getD i false = false := by
 cases h : listed.getD i false with
 | false => rfl
 | true => have := (mem_ready.1 hi).1; rw [getD_false_of_true h] at this; cases this
theorem set_self {i : Nat} (h : i < listed.size) : (listed.setIfInBounds i true).getD i false = true := by simp [h]
theorem St.solid (D : Draw P C kk base ops B S Hp v c) (h : St N base B0 φ0 H0 w0 ops S Hp v c listed p pd ψ a w) (hf : p < ops.size → 2 ≤ c p ∧ listed.getD p false = false) (hD : Down ops listed) {i k : Nat} (hi : i ∈ Region.ready .any ops listed) (hB : B k i) : pd k = none := by
 cases hk : pd k with
 | none => rfl
 | some cb =>
  exfalso
  obtain ⟨h1,h2,h3,h4,_⟩ := h.pend k cb hk
  obtain ⟨h5,h6⟩ := hf (by omega)
  obtain ⟨_,o,ho,_⟩ := mem_ready.1 hi
  have hne : p ≠ k := by rintro rfl; rw [h4] at h6; cases h6
  have := (D.bits _ _ (D.late k h2 h3 i (op_lt ho) hB p (by omega) h5)).ready hD hi
  rw [h6] at this; cases this
theorem St.slots (D : Draw P C kk base ops B S Hp v c) (h : St N base B0 φ0 H0 w0 ops S Hp v c listed p pd ψ a w) (hf : p < ops.size → 2 ≤ c p ∧ listed.getD p false = false) (hD : Down ops listed) {i : Nat} {o : Oper} (ho : ops[i]? = some o) (hi : i ∈ Region.ready .any ops listed) :
 SlotsAt ψ (Hp p).length w (cutS (looks ops o) (S i)) a.tmps := by
 obtain ⟨h1,h2⟩ := cutS_spec (looks ops o) (S i)
 have hlen := D.len i (Nat.le_of_lt (op_lt ho))
 refine ⟨by rw [h1,hlen]; exact h.size,fun t x hx => ?_⟩
 have hlt : t < a.tmps.size := by
  have := (List.getElem?_eq_some_iff.1 hx).1
  rw [h1,hlen] at this
  rw [h.size]; exact this
 rcases h2 t x hx with rfl | ⟨hm,hS⟩
 ·exact ⟨_,Array.getElem?_eq_getElem hlt,.undef _⟩
 ·have hno := ready_not hi
  by_cases hw : ∃ k o',k < i ∧ ops[k]? = some o' ∧ o'.dst = some t
  ·obtain ⟨k,o',hk,ho',hd⟩ := hw
   rw [D.new ho' hd (by rw [← h.size]; exact hlt) i (Nat.le_of_lt (op_lt ho)) hk] at hS
   cases hS
   rcases D.seen i k o o' t ho ho' (by omega) hd hm with hb | hb
   ·exact h.new k o' t ho' ((D.bits _ _ hb).ready hD hi) hd (by rw [← h.size]; exact hlt) (h.solid D hf hD hi hb)
   ·have := D.lt (D.bits _ _ hb); omega
  ·rw [D.old i (Nat.le_of_lt (op_lt ho)) fun k o' hk ho' hd => hw ⟨k,o',hk,ho',hd⟩] at hS
   refine h.old t x hS fun k o' ho' hl hd => ?_
   have hne : k ≠ i := by rintro rfl; rw [hno] at hl; cases hl
   rcases D.seen i k o o' t ho ho' hne hd hm with hb | hb
   ·exact hw ⟨k,o',D.lt (D.bits _ _ hb),ho',hd⟩
   ·have := (D.bits _ _ hb).listed hD hl
    rw [hno] at this; cases this
theorem St.step (D : Draw P C kk base ops B S Hp v c) (h : St N base B0 φ0 H0 w0 ops S Hp v c listed p pd ψ a w) {i : Nat} {o : Oper} (ho : ops[i]? = some o) (hno : listed.getD i false = false) {q : Nat} (hq : (q = p ∧ c i < 2) ∨ (p = i ∧ q = i + 1))
 {V : Value} (hv : RV ψ' (Hp q).length w' (v i) V) (hr : HR N ψ' (Hp q) w') (hx : Ext ψ (Hp p).length w ψ' (Hp q).length w') (hlow : ∀ b,b < base → (Hp q)[b]? = (Hp p)[b]?) :
 St N base B0 φ0 H0 w0 ops S Hp v c (listed.setIfInBounds i true) q pd ψ' (a.put o.dst V) w' := by
 have hi := op_lt ho
 have hset : (listed.setIfInBounds i true).getD i false = true := set_self (by rw [h.ls]; exact hi)
 have hback : ∀ k,k ≠ i → (listed.setIfInBounds i true).getD k false = true → listed.getD k false = true := fun k hk hl => by rwa [getD_set_ne false (Ne.symm hk)] at hl
 refine ⟨by simp [h.ls],?_,fun k hk h2 => ?_,fun k hk h1 h2 hl => ?_,fun k cb hk => ?_,h.inj,fun x => by rw [hx.res]; exact h.res x,hr,h.ext.trans hx.toR fun x hx => (h.res x).2 (.inl hx),by rw [put_size]; exact h.size,
  fun t x ht hnw => ?_,fun k o' t hk hl hd ht hpk => ?_,by rw [put_defers]; exact h.marks.mono hx,fun b hb => (hlow b hb).trans (h.low b hb)⟩
 ·rcases hq with ⟨rfl,_⟩ | ⟨_,rfl⟩
  ·exact h.pn
  ·exact hi
 ·by_cases e : k = i
  ·subst e; exact hset
  ·refine getD_set_true (h.below k ?_ h2)
   rcases hq with ⟨rfl,_⟩ | ⟨rfl,rfl⟩ <;> omega
 ·have e : k ≠ i := by rintro rfl; rcases hq with ⟨_,h3⟩ | ⟨_,rfl⟩ <;> omega
  exact h.above k (by rcases hq with ⟨rfl,_⟩ | ⟨rfl,rfl⟩ <;> omega) h1 h2 (hback k e hl)
 ·obtain ⟨h1,h2,h3,h4,h5,h6,⟨z,Z,T,hz,hvk,hH,hrv,hh⟩,htm⟩ := h.pend k cb hk
  have e : k ≠ i := by rintro rfl; rw [hno] at h4; cases h4
  refine ⟨by rcases hq with ⟨rfl,_⟩ | ⟨rfl,rfl⟩ <;> omega,h2,h3,getD_set_true h4,h5,h6,⟨z,Z,T,hz,hvk,hH,hrv,hx.keep cb _ ((h.res cb).2 (.inr ⟨k,hk⟩)) hh⟩,fun o' t ho' hd ht => ?_⟩
  rw [put_get_ne (D.uniq i k o o' t ho ho' e hd)]
  exact htm o' t ho' hd ht
 ·obtain ⟨U,h1,h2⟩ := h.old t x ht fun k o' ho' hl => hnw k o' ho' (getD_set_true hl)
  exact ⟨U,by rw [put_get_ne (hnw i o ho hset)]; exact h1,h2.mono hx⟩
 ·by_cases e : k = i
  ·subst e
   rw [ho] at hk
   cases hk
   exact ⟨V,put_get hd (by rw [h.size]; exact ht),hv⟩
  ·obtain ⟨U,h1,h2⟩ := h.new k o' t hk (hback k e hl) hd ht hpk
   exact ⟨U,by rw [put_get_ne (D.uniq i k o o' t ho hk e hd)]; exact h1,h2.mono hx⟩
theorem St.ahead (D : Draw P C kk base ops B S Hp v c) (hress : ∀ x,φ0.res x → x < w0.heap.size) (h : St N base B0 φ0 H0 w0 ops S Hp v c listed p pd ψ a w) {i : Nat} {o : Oper} (ho : ops[i]? = some o) (hno : listed.getD i false = false) (hc : c i = 3) (hp : p ≤ i)
 {z : AV} {Z : Value} {T : TypeId} (hz : z.cells.all AV.leaf = true) (hv : v i = (allocA (Hp i) z).1) (hH : Hp (i + 1) = (allocA (Hp i) z).2) (hrv : ∀ φ n w,RV φ n w z Z) :
 St N base B0 φ0 H0 w0 ops S Hp v c (listed.setIfInBounds i true) p (fun k => if k = i then some w.heap.size else pd k) (hold ψ w.heap.size) (a.put o.dst (.pointer (some ⟨w.heap.size,0,none⟩))) (w.alloc (.cells Z.cells T (0,0))) := by
 have hi := op_lt ho
 have hset : (listed.setIfInBounds i true).getD i false = true := set_self (by rw [h.ls]; exact hi)
 have hback : ∀ k,k ≠ i → (listed.setIfInBounds i true).getD k false = true → listed.getD k false = true := fun k hk hl => by rwa [getD_set_ne false (Ne.symm hk)] at hl
 have hx : ExtR ψ (Hp p).length w (hold ψ w.heap.size) (Hp p).length (w.alloc (.cells Z.cells T (0,0))) := ExtR.hold _
 have hlt : ∀ k cb,pd k = some cb → cb < w.heap.size := fun k cb hk => h.hr.ress cb ((h.res cb).2 (.inr ⟨k,hk⟩))
 have hpi : pd i = none := by
  cases hk : pd i with
  | none => rfl
  | some cb => have := (h.pend i cb hk).2.2.2.1; rw [hno] at this; cases this
 refine ⟨by simp [h.ls],h.pn,fun k hk h2 => getD_set_true (h.below k hk h2),fun k hk h1 h2 hl => ?_,fun k cb hk => ?_,fun k k' cb hk hk' => ?_,fun x => ?_,h.hr.hold _,h.ext.trans hx fun x hx => (h.res x).2 (.inl hx),by rw [put_size]; exact h.size,
  fun t x ht hnw => ?_,fun k o' t hk hl hd ht hpk => ?_,by rw [put_defers]; exact h.marks.monoR hx,h.low⟩
 ·by_cases e : k = i
  ·exact ⟨_,if_pos e⟩
  ·obtain ⟨cb,h3⟩ := h.above k hk h1 h2 (hback k e hl)
   exact ⟨cb,by rw [if_neg e]; exact h3⟩
 ·by_cases e : k = i
  ·subst e
   rw [if_pos rfl] at hk
   cases hk
   refine ⟨hp,hi,hc,hset,h.ext.size,fun hr => ?_,⟨z,Z,T,hz,hv,hH,hrv,heap_alloc_new⟩,fun o' t ho' hd ht => ?_⟩
   ·have := hress _ hr
    have := h.ext.size
    omega
   ·rw [ho] at ho'
    cases ho'
    exact put_get hd (by rw [h.size]; exact ht)
  ·rw [if_neg e] at hk
   obtain ⟨h1,h2,h3,h4,h5,h6,⟨z',Z',T',hz',hvk,hH',hrv',hh⟩,htm⟩ := h.pend k cb hk
   refine ⟨h1,h2,h3,getD_set_true h4,h5,h6,⟨z',Z',T',hz',hvk,hH',hrv',(heap_alloc_old (hlt k cb hk)).trans hh⟩,fun o' t ho' hd ht => ?_⟩
   rw [put_get_ne (D.uniq i k o o' t ho ho' e hd)]
   exact htm o' t ho' hd ht
 ·split at hk
  ·rename_i e
   cases hk
   split at hk'
   ·rename_i e'; omega
   ·have := hlt _ _ hk'; omega
  ·split at hk'
   ·cases hk'; have := hlt _ _ hk; omega
   ·exact h.inj _ _ _ hk hk'
 ·simp only [hold]
  rw [h.res x]
  constructor
  ·rintro ((h1 | ⟨k,hk⟩) | rfl)
   ·exact .inl h1
   ·exact .inr ⟨k,by rw [if_neg]; exact hk; rintro rfl; rw [hpi] at hk; cases hk⟩
   ·exact .inr ⟨i,if_pos rfl⟩
  ·rintro (h1 | ⟨k,hk⟩)
   ·exact .inl (.inl h1)
   ·split at hk
    ·cases hk; exact .inr rfl
    ·exact .inl (.inr ⟨k,hk⟩)
 ·obtain ⟨U,h1,h2⟩ := h.old t x ht fun k o' ho' hl => hnw k o' ho' (getD_set_true hl)
  exact ⟨U,by rw [put_get_ne (hnw i o ho hset)]; exact h1,h2.monoC hx.toC⟩
 ·by_cases e : k = i
  ·rw [if_pos e] at hpk; cases hpk
  ·rw [if_neg e] at hpk
   obtain ⟨U,h1,h2⟩ := h.new k o' t hk (hback k e hl) hd ht hpk
   exact ⟨U,by rw [put_get_ne (D.uniq i k o o' t ho hk e hd)]; exact h1,h2.monoC hx.toC⟩
end Go.Proofs.Ev
namespace Go.Proofs.Ev
open Go.RowKit
variable {P : Program} {C : Cfg} {N : Low} {φ φ' φ0 ψ ψ' : Phi} {H0 : Heap} {w w' w0 : World}
variable {kk base : Nat} {ops : Array Oper} {B : Nat → Nat → Prop} {S : Nat → List AV} {Hp : Nat → Heap} {v : Nat → AV} {c : Nat → Nat}
variable {B0 : Nat} {listed : Array Bool} {p : Nat} {pd : Nat → Option Nat} {a : Act}
def unl (listed : Array Bool) : Nat → Nat
 | 0 => 0
 | m + 1 => unl listed m + if listed.getD m false = true then 0 else 1
theorem unl_le {listed : Array Bool} {i : Nat} : ∀ m,unl (listed.setIfInBounds i true) m ≤ unl listed m
 | 0 => Nat.le_refl _
 | m + 1 => by
  have := unl_le (listed := listed) (i := i) m
  simp only [unl]
  by_cases h : listed.getD m false = true
  ·rw [if_pos h,if_pos (getD_set_true h)]; exact this
  ·rw [if_neg h]
   split <;> omega
theorem unl_lt {i : Nat} (hs : i < listed.size) (hi : listed.getD i false = false) : ∀ m,i < m → unl (listed.setIfInBounds i true) m < unl listed m
 | 0,h => by omega
 | m + 1,h => by
  simp only [unl]
  by_cases e : i = m
  ·subst e
   rw [if_pos (set_self hs),if_neg (by rw [hi]; simp)]
   have := unl_le (listed := listed) (i := i) i
   omega
  ·have := unl_lt hs hi m (by omega)
   by_cases h : listed.getD m false = true
   ·rw [if_pos h,if_pos (getD_set_true h)]; exact this
   ·rw [if_neg h]
    split <;> omega
theorem unl_zero : ∀ m,unl listed m = 0 → ∀ i,i < m → listed.getD i false = true
 | 0,_,i,hi => by omega
 | m + 1,h,i,hi => by
  simp only [unl] at h
  by_cases e : i = m
  ·subst e
   by_cases hl : listed.getD i false = true
   ·exact hl
   ·rw [if_neg hl] at h; omega
  ·exact unl_zero m (by omega) i (by omega)
theorem unl_start (n : Nat) : ∀ m,unl (Array.replicate n false) m ≤ m
 | 0 => Nat.le_refl _
 | m + 1 => by
  have := unl_start n m
  simp only [unl]
  split <;> omega
theorem all_listed (D : Draw P C kk base ops B S Hp v c) (hs : listed.size = ops.size) (hr : Region.ready .any ops listed = []) : ∀ i,i < ops.size → listed.getD i false = true := by
 intro i
 induction i using Nat.strongRecOn with
 | _ i ih =>
  intro hi
  cases hl : listed.getD i false with
  | true => rfl
  | false =>
   exfalso
   obtain ⟨o,ho⟩ := get_op hi
   have : i ∈ Region.ready .any ops listed := by
    refine mem_ready.2 ⟨?_,o,ho,fun e he hb => ?_⟩
    ·have : i < listed.size := by omega
     simp [this] at hl ⊢; exact hl
    ·have := D.back i o ho e he hb
     exact ih _ this (by omega)
   rw [hr] at this
   cases this
theorem St.done (D : Draw P C kk base ops B S Hp v c) (h : St N base B0 φ0 H0 w0 ops S Hp v c listed p pd ψ a w) (hf : p < ops.size → 2 ≤ c p ∧ listed.getD p false = false) (hall : ∀ i,i < ops.size → listed.getD i false = true)
 {Q : Exit → Act → World → Prop} (hQ : ∀ a' w' φ',HR N φ' (Hp ops.size) w' → Ext φ0 H0.length w0 φ' (Hp ops.size).length w' → SlotsAt φ' (Hp ops.size).length w' (S ops.size) a'.tmps → Marks B0 φ' w' a'.defers → (∀ b,b < base → (Hp ops.size)[b]? = H0[b]?) → Q .normal a' w') :
 Q .normal a w := by
 have hp : p = ops.size := by
  rcases Nat.lt_or_ge p ops.size with h1 | h1
  ·have := (hf h1).2; rw [hall p h1] at this; cases this
  ·have := h.pn; omega
 subst hp
 have hpd : ∀ k,pd k = none := fun k => by
  cases hk : pd k with
  | none => rfl
  | some cb => have := h.pend k cb hk; omega
 refine hQ a w ψ h.hr (h.ext.toExt ?_) ⟨by rw [D.len _ (Nat.le_refl _)]; exact h.size,fun t x hx => ?_⟩ h.marks h.low
 ·funext x
  apply propext
  rw [h.res x]
  refine ⟨fun h1 => h1.elim id fun hk => ?_,Or.inl⟩
  obtain ⟨k,hk⟩ := hk
  rw [hpd k] at hk; cases hk
 ·have ht : t < (S 0).length := by
   rw [← D.len _ (Nat.le_refl _)]; exact (List.getElem?_eq_some_iff.1 hx).1
  by_cases hw : ∃ k o',k < ops.size ∧ ops[k]? = some o' ∧ o'.dst = some t
  ·obtain ⟨k,o',hk,ho',hd⟩ := hw
   rw [D.new ho' hd ht _ (Nat.le_refl _) hk] at hx
   cases hx
   exact h.new k o' t ho' (hall k hk) hd ht (hpd k)
  ·rw [D.old _ (Nat.le_refl _) fun k o' hk ho' hd => hw ⟨k,o',hk,ho',hd⟩] at hx
   exact h.old t x hx fun k o' ho' _ hd => hw ⟨k,o',op_lt ho',ho',hd⟩
theorem draw_any (hstep : StepOK P C N kk) (D : Draw P C kk base ops B S Hp v c) (hH0 : HR N φ0 H0 w0) (hbase : base ≤ H0.length) {r : Option Nat} (hr0 : RoundOK r w0)
 {Q : Exit → Act → World → Prop} (hQ : ∀ a' w' φ',HR N φ' (Hp ops.size) w' → Ext φ0 H0.length w0 φ' (Hp ops.size).length w' → SlotsAt φ' (Hp ops.size).length w' (S ops.size) a'.tmps → Marks B0 φ' w' a'.defers → (∀ b,b < base → (Hp ops.size)[b]? = H0[b]?) → Q .normal a' w') :
 ∀ (fuel : Nat) (listed : Array Bool) (p : Nat) (pd : Nat → Option Nat) (ψ : Phi) (a : Act) (w : World),unl listed ops.size ≤ fuel → Down ops listed → St N base B0 φ0 H0 w0 ops S Hp v c listed p pd ψ a w → (p < ops.size → 2 ≤ c p ∧ listed.getD p false = false) →
  wpAnyIn (Fw r) 0 P .any ops Q fuel listed a w := by
 intro fuel
 induction fuel with
 | zero =>
  intro listed p pd ψ a w hu hD h hf
  have hall := unl_zero ops.size (Nat.le_zero.1 hu)
  refine ⟨?_,h.done D hf hall hQ⟩
  rw [List.eq_nil_iff_forall_not_mem]
  intro i hi
  obtain ⟨_,o,ho,_⟩ := mem_ready.1 hi
  have := ready_not hi
  rw [hall i (op_lt ho)] at this
  cases this
 | succ fuel ih =>
  intro listed p pd ψ a w hu hD h hf
  refine ⟨fun he => h.done D hf (all_listed D h.ls he) hQ,fun i hi => ?_⟩
  obtain ⟨_,o,ho,_⟩ := mem_ready.1 hi
  have hno := ready_not hi
  have hlt := op_lt ho
  have hsl := h.slots D hf hD ho hi
  have hu' : unl (listed.setIfInBounds i true) ops.size ≤ fuel := by
   have := unl_lt (by rw [h.ls]; exact hlt) hno ops.size hlt
   omega
  have hrd : RoundOK r w := hr0.monoR h.ext
  have hbase' : base ≤ (Hp p).length := Nat.le_trans hbase h.ext.le
  have next : ∀ {p' pd' ψ' a' w'},St N base B0 φ0 H0 w0 ops S Hp v c (listed.setIfInBounds i true) p' pd' ψ' a' w' → wpAnyIn (Fw r) 0 P .any ops Q fuel (listed.setIfInBounds i true) a' w' := by
   intro p' pd' ψ' a' w' h'
   obtain ⟨p2,pd2,ψ2,h2,hf2⟩ := St.advance D hH0.low hbase _ p' pd' ψ' (Nat.le_refl _) h'
   exact ih _ p2 pd2 ψ2 a' w' hu' (hD.set hi) h2 hf2
  unfold wpOpIn
  simp only [ho]
  have go : ∀ q,(q = p ∧ c i < 2) ∨ (p = i ∧ q = i + 1) → stepA P C kk base ops o (cutS (looks ops o) (S i)) (Hp p) = some (v i,Hp q) →
   if Region.wanted o (yielded ops a.tmps) then o.wpIn (Fw r) 0 P a w (wpAnyIn (Fw r) 0 P .any ops Q fuel (listed.setIfInBounds i true)) Q else (∀ f,o.about P w a.eval = some f → (Fw r).fn f) ∧ wpAnyIn (Fw r) 0 P .any ops Q fuel (listed.setIfInBounds i true) (a.put o.dst Go.undef) w :=
   fun q hq hst => hstep base ops o _ (Hp p) (v i) (Hp q) hst hbase' h.hr hsl hrd _ Q fun V w' ψ' hv hr' hx hlow => next (h.step D ho hno hq hv hr' hx hlow)
  by_cases hc : c i < 2
  ·refine go p (.inl ⟨rfl,hc⟩) ?_
   by_cases hc0 : c i = 0
   ·exact (step_kind0 (Hp p) (D.step i o ho) (by rw [← D.cls i o ho]; exact hc0)).1
   ·have hwin : ∀ k,k < ops.size → 2 ≤ c k → (B k i → k < p) ∧ (B i k → p ≤ k) := fun k hk h2 => by
     refine ⟨fun hb => ?_,fun hb => ?_⟩
     ·rcases Nat.lt_or_ge k p with h3 | h3
      ·exact h3
      ·obtain ⟨cb,h4⟩ := h.above k h3 hk h2 ((D.bits _ _ hb).ready hD hi)
       rw [h.solid D hf hD hi hb] at h4; cases h4
     ·rcases Nat.lt_or_ge k p with h3 | h3
      ·have := (D.bits _ _ hb).listed hD (h.below k h3 h2)
       rw [hno] at this; cases this
      ·exact h3
    have hpp : p = ops.size ∨ (p < ops.size ∧ 2 ≤ c p) := by
     rcases Nat.lt_or_ge p ops.size with h3 | h3
     ·exact .inr ⟨h3,(hf h3).1⟩
     ·exact .inl (by have := h.pn; omega)
    obtain ⟨H1,h1⟩ := D.again i o ho (by omega) p hpp hwin
    have := step_kind1 h1 (by rw [← D.cls i o ho]; omega)
    rw [h1,this]
  ·have hpi : p ≤ i := by
    rcases Nat.lt_or_ge i p with h3 | h3
    ·have := h.below i h3 (by omega)
     rw [hno] at this; cases this
    ·exact h3
   by_cases hpe : p = i
   ·subst hpe
    exact go (p + 1) (.inr ⟨rfl,rfl⟩) (D.step p o ho)
   ·obtain ⟨h5,h6⟩ := hf (by omega)
    by_cases hc3 : c i = 3
    ·obtain ⟨hw,t,z,hop,hz,hv,hH⟩ := step_kind3 (D.step i o ho) (by rw [← D.cls i o ho]; exact hc3)
     rw [wanted_sound hsl hw,if_pos rfl]
     refine ⟨fun _ _ => trivial,?_⟩
     obtain ⟨inf,Z,h7,h8,h9,h10,h11⟩ := ofZero_sound (φ := ψ) (w := w) (n := 0) hz
     have hsem : o.semAt (Fw r).round a.eval = execOp a.eval o := Oper.semAt_eq _ _ _ (by rw [hop]; simp)
     have hrun : (execOp a.eval o).run P w = .ok (.value (.pointer (some ⟨w.heap.size,0,none⟩))) (w.alloc (.cells Z.cells t (0,0))) := by
      unfold execOp
      rw [hop]
      simp [Instr.alloc,h9,newVar,newRow]
     rw [hsem,hrun]
     refine next (h.ahead D hH0.ress ho hno hc3 hpi h11 hv hH fun φ n w => ?_)
     obtain ⟨_,Z',h7',h8',_,h10',_⟩ := ofZero_sound (φ := φ) (w := w) (n := n) hz
     rw [h7] at h7'
     cases h7'
     rw [h8] at h8'
     cases h8'
     exact h10'
    ·exfalso
     have := (D.bits _ _ (D.chg i hlt (by omega) hc3 p (by omega) h5)).ready hD hi
     rw [h6] at this; cases this
end Go.Proofs.Ev
namespace Go.Proofs.Ev
open Go.RowKit
variable {P : Program} {C : Cfg} {N : Low} {φ φ' : Phi} {H H' : Heap} {w w' : World} {k base : Nat}
theorem drawOk_at {ops : Array Oper} {n : Nat} {bef : Nat → Nat → Bool} {cls : Nat → Nat} {dst : Nat → Option Tmp} {val : Nat → AV} {ch : List Nat} {again : Nat → Nat → Option (AV × Heap)} (h : drawOk ops n bef cls dst val ch again = true) {i : Nat} (hi : i < n) {o : Oper} (ho : ops[i]? = some o) :
 (∀ e ∈ o.after,Region.binds .any e = true → e.on < i) ∧
 (∀ k d,k < n → k ≠ i → dst k = some d → dst i ≠ some d ∧ (d ∈ looks ops o → bef k i = true ∨ bef i k = true)) ∧
 (2 ≤ cls i → cls i ≠ 3 → ∀ k ∈ ch,k < i → bef k i = true) ∧
 (cls i = 3 → ∀ j,j < n → bef i j = true → ∀ k ∈ ch,k < i → bef k j = true) ∧
 (cls i = 1 → ∀ p,(p ∈ ch ∨ p = n) → (∀ k ∈ ch,(bef k i = true → k < p) ∧ (bef i k = true → p ≤ k)) → ∃ v H1,again i p = some (v,H1) ∧ AV.beq v (val i) = true) := by
 unfold drawOk at h
 rw [List.all_eq_true] at h
 have h := h i (List.mem_range.2 hi)
 simp only [ho,Bool.and_eq_true,List.all_eq_true,List.mem_range,Bool.or_eq_true,beq_iff_eq,decide_eq_true_eq,Bool.not_eq_true',bne_iff_ne,ne_eq] at h
 obtain ⟨⟨⟨⟨h1,h2⟩,h3⟩,h4⟩,h5⟩ := h
 refine ⟨fun e he hb => ?_,fun k d hk hne hd => ?_,fun h6 h7 k hk hki => ?_,fun h6 j hj hb k hk hki => ?_,fun h6 p hp hw => ?_⟩
 ·rcases h1 e (by simpa using he) with h | h
  ·rw [hb] at h; cases h
  ·exact h
 ·rcases h2 k hk with h | h
  ·exact absurd h hne
  ·rw [hd] at h
   simp only [Bool.and_eq_true,bne_iff_ne,ne_eq,Bool.or_eq_true,Bool.not_eq_true'] at h
   refine ⟨h.1,fun hm => ?_⟩
   rcases h.2 with (h8 | h8) | h8
   ·rw [List.contains_iff_mem.2 hm] at h8; cases h8
   ·exact .inl h8
   ·exact .inr h8
 ·rcases h3 with (h | h) | h
  ·omega
  ·exact absurd h h7
  ·rcases h k hk with h | h
   ·omega
   ·exact h
 ·rcases h4 with h | h
  ·simp [h6] at h
  ·rcases h j hj with h | h
   ·rw [hb] at h; cases h
   ·rcases h k hk with h | h
    ·omega
    ·exact h
 ·rcases h5 with h | h
  ·simp [h6] at h
  ·have hpm : p ∈ ch ++ [n] := by simpa using hp
   rcases h p hpm with h | h
   ·exfalso
    have : (ch.all fun k => (!bef k i || decide (k < p)) && (!bef i k || decide (p ≤ k))) = true := by
     rw [List.all_eq_true]
     intro k hk
     obtain ⟨h8,h9⟩ := hw k hk
     cases hb1 : bef k i <;> cases hb2 : bef i k <;> simp [hb1,hb2] at h8 h9 ⊢ <;> omega
    rw [this] at h
    cases h
   ·split at h
    ·rename_i v H1 he
     exact ⟨v,H1,he,h⟩
    ·cases h
theorem region_draw (hmix : P.follows .mixedOrders = true) (hstep : StepOK P C N k) {id : Nat} {ops : Array Oper} {s s' : List AV} {tr : List Tr} (hrt : runT P ops (fun o s H => stepA P C k base ops o s H) ops.toList s H = some (tr,s',H'))
 (hok : drawOkT ops tr H' (fun o s H => stepA P C k base ops o s H) = true) {a : Act} {r : Option Nat} {B0 : Nat} (hbase : base ≤ H.length) (hH : HR N φ H w) (hs : SlotsAt φ H.length w s a.tmps) (hm : Marks B0 φ w a.defers) (hr : RoundOK r w)
 {Q : Exit → Act → World → Prop} (hQ : ∀ a' w' φ',HR N φ' H' w' → Ext φ H.length w φ' H'.length w' → SlotsAt φ' H'.length w' s' a'.tmps → Marks B0 φ' w' a'.defers → (∀ b,b < base → H'[b]? = H[b]?) → Q .normal a' w') : (Code.region id ops true).wpIn (Fw r) 0 P Q a w := by
 obtain ⟨hlen,S,Hp,hS0,hH0,hSn,hHn,hst⟩ := runT_spec _ _ _ _ _ _ hrt
 have hsz : ops.toList.length = ops.size := by simp
 rw [hsz] at hlen hSn hHn
 have hget : ∀ {i : Nat} {o : Oper},ops[i]? = some o → ops.toList[i]? = some o := fun h => by rw [Array.getElem?_toList]; exact h
 unfold drawOkT at hok
 simp only at hok
 have hch : ∀ {j : Nat},j ∈ (List.range tr.length).filter (fun i => 2 ≤ (tr.getD i default).c) ↔ j < ops.size ∧ 2 ≤ (tr.getD j default).c := by
  intro j; rw [List.mem_filter,List.mem_range,hlen]; simp
 have hi' : ∀ {i : Nat},i < ops.size → i < tr.length := fun h => by rw [hlen]; exact h
 have D : Draw P C k base ops (fun m i => (((befGo ops.toList []).getD i 0).testBit m) = true) S Hp (fun i => (tr.getD i default).v) (fun i => (tr.getD i default).c) := by
  refine ⟨fun m i hb => befGo_spec ops.toList [] (by simp) (fun j m hj => by simp at hj) i m hb,fun i o ho => (hst i o (hget ho)).2.2.1,fun i o ho => (hst i o (hget ho)).2.2.2.1,fun i o ho => (hst i o (hget ho)).2.2.2.2,
   fun i o ho => (drawOk_at hok (hi' (op_lt ho)) ho).1,fun i m o o' t ho ho' hne hd hd' => ?_,fun i m o o' t ho ho' hne hd hl => ?_,fun i hi h2 h3 m hm h4 => ?_,fun i hi h3 j hj hb m hm h4 => ?_,fun i o ho h1 p hp hw => ?_⟩
  ·have := ((drawOk_at hok (hi' (op_lt ho)) ho).2.1 m t (hi' (op_lt ho')) hne (by rw [ho']; exact hd)).1
   rw [ho] at this
   exact this hd'
  ·exact ((drawOk_at hok (hi' (op_lt ho)) ho).2.1 m t (hi' (op_lt ho')) hne (by rw [ho']; exact hd)).2 hl
  ·obtain ⟨o,ho⟩ := get_op hi
   exact (drawOk_at hok (hi' hi) ho).2.2.1 h2 h3 m (hch.2 ⟨by omega,h4⟩) hm
  ·obtain ⟨o,ho⟩ := get_op hi
   exact (drawOk_at hok (hi' hi) ho).2.2.2.1 h3 j (hi' hj) hb m (hch.2 ⟨by omega,h4⟩) hm
  ·obtain ⟨v,H1,h2,h3⟩ := (drawOk_at hok (hi' (op_lt ho)) ho).2.2.2.2 h1 p (by
    rcases hp with h | h
    ·exact .inr (by rw [hlen]; exact h)
    ·exact .inl (hch.2 h)) fun m hm => hw m (hch.1 hm).1 (hch.1 hm).2
   rw [ho] at h2
   simp only at h2
   refine ⟨H1,?_⟩
   rw [← beq_eq _ _ h3,← (hst i o (hget ho)).1]
   have hpp : (if p < tr.length then (tr.getD p default).h else H') = Hp p := by
    rcases hp with h | h
    ·rw [if_neg (by omega),h,hHn]
    ·rw [if_pos (by omega)]
     obtain ⟨o',ho'⟩ := get_op h.1
     exact (hst p o' (hget ho')).2.1
   rw [← hpp]
   exact h2
 refine wpIn_region_any hmix ?_
 change wpAnyIn (Fw r) 0 P .any ops Q ops.size (Array.replicate ops.size false) a w.drew
 have hfalse : ∀ i,(Array.replicate ops.size false).getD i false = true → False := fun i hi => by
  simp only [Array.getD_eq_getD_getElem?,Array.getElem?_replicate] at hi
  split at hi <;> cases hi
 have hinit : St N base B0 φ H w.drew ops S Hp (fun i => (tr.getD i default).v) (fun i => (tr.getD i default).c) (Array.replicate ops.size false) 0 (fun _ => none) φ a w.drew := by
  refine ⟨by simp,Nat.zero_le _,fun m hm => by omega,fun m _ _ _ hl => (hfalse m hl).elim,fun m cb hm => (by cases hm),fun m m' cb hm => (by cases hm),fun x => ⟨.inl,fun h => h.elim (fun h => h) fun ⟨_,h⟩ => (by cases h)⟩,by rw [hH0]; exact hH.drew,by rw [hH0]; exact Ext.refl.toR,by rw [hS0]; exact hs.1,
   fun t x hx _ => ?_,fun m o t _ hl => (hfalse m hl).elim,hm.mono (Ext.drew (n := H.length)),fun b _ => by rw [hH0]⟩
  rw [hS0] at hx
  rw [hH0]
  obtain ⟨V,h1,h2⟩ := hs.2 t x hx
  exact ⟨V,h1,h2.mono Ext.drew⟩
 obtain ⟨p,pd,ψ,h1,h2⟩ := St.advance D hH.drew.low hbase _ 0 _ _ (Nat.le_refl _) hinit
 refine draw_any hstep D hH.drew hbase (hr.mono (φ' := φ) (n := H.length) (n' := H.length) Ext.drew) (fun a' w' φ' g1 g2 g3 g4 g5 => ?_) ops.size _ p pd ψ a w.drew (unl_start _ _) (fun j o _ hj => (hfalse j hj).elim) h1 h2
 rw [hHn] at g1 g2 g3 g5
 rw [hSn] at g3
 exact hQ a' w' φ' g1 (Ext.drew.trans g2) g3 g4 g5
end Go.Proofs.Ev
namespace Go.Proofs.Ev
open Go.RowKit
variable {P : Program} {C : Cfg} {N : Low} {φ φ' : Phi} {H H' : Heap} {w w' : World} {n : Nat}
def LoopOK (P : Program) (C : Cfg) (N : Low) (k : Nat) : Prop :=
 ∀ base c s H e s' H',codeA P C k base (.loop c) s H = some (e,s',H') → ∀ {φ w} {a : Act} {r B},base ≤ H.length → HR N φ H w → SlotsAt φ H.length w s a.tmps → Marks B φ w a.defers → B ≤ w.heap.size → RoundOK r w →
  ∀ Q : Exit → Act → World → Prop,(∀ a' w' φ',HR N φ' H' w' → Ext φ H.length w φ' H'.length w' → SlotsAt φ' H'.length w' s' a'.tmps → Marks B φ' w' a'.defers → (∀ b,b < base → H'[b]? = H[b]?) → Q e.toExit a' w') → Code.roundsIn (Fw r) 0 P c Q k a w
theorem loop_ok {k : Nat} (hcode : CodeOK P C N k) (hloop : LoopOK P C N k) : LoopOK P C N (k + 1) := by
 intro base c s H e s' H' h φ w a r B hbase hH hs hm hB hr Q hQ
 rw [roundsIn_succ]
 simp only [codeA] at h
 cases hc : codeA P C k base c s H with
 | none => rw [hc] at h; cases h
 | some x =>
  obtain ⟨e1,s1,H1⟩ := x
  rw [hc] at h
  refine hcode base c s H e1 s1 H1 hc hbase hH hs hm hB hr _ fun a1 w1 φ1 h1 hx1 hs1 hm1 hl1 => ?_
  cases e1 with
  | normal =>
   simp only at h
   exact hloop base c s1 H1 e s' H' h (Nat.le_trans hbase hx1.le) h1 hs1 hm1 (Nat.le_trans hB hx1.size) (hr.mono hx1) Q
    fun a' w' φ' h2 hx2 hs2 hm2 hl2 => hQ a' w' φ' h2 (hx1.trans hx2) hs2 hm2 fun b hb => (hl2 b hb).trans (hl1 b hb)
  | exit id => simp only [Option.some.injEq,Prod.mk.injEq] at h; obtain ⟨rfl,rfl,rfl⟩ := h; exact hQ a1 w1 φ1 h1 hx1 hs1 hm1 hl1
  | ret => simp only [Option.some.injEq,Prod.mk.injEq] at h; obtain ⟨rfl,rfl,rfl⟩ := h; exact hQ a1 w1 φ1 h1 hx1 hs1 hm1 hl1
theorem end_loop (hH : HR N φ H w) {b : Nat} {L : Loc} (hL : φ b = some L) {rec rec' : Loop} (hl : w.heap[L.cb]? = some (.loop rec)) :
 HR N (delLoc φ b) (H.set b .dead) (putBlk w L.cb (.loop rec')) ∧ Ext φ H.length w (delLoc φ b) (H.set b .dead).length (putBlk w L.cb (.loop rec')) := by
 have hd : HR N (delLoc φ b) (H.set b .dead) w := hH.del b
 have hnl : NotLive (delLoc φ b) L.cb := by
  refine ⟨fun k L' hL' e => ?_,hH.resn b L hL⟩
  simp only [delLoc] at hL'
  split at hL'
  ·cases hL'
  ·rename_i hne; exact hne (hH.inj k b L' L hL' hL e)
 refine ⟨hd.putObj hl (by intro c T fr e; cases e) hnl,?_⟩
 refine ⟨by simp,by simp,fun k hk L' hL' => ?_,fun cb o hc hn => (putBlk_other (hn.1 b L hL)).trans hc,fun cb hcb hn => ?_,fun cb r hr => ?_,rfl,fun cb o hr hc => (putBlk_other fun e => hH.resn b L hL (by rw [e]; exact hr)).trans hc,.refl⟩
 ·simp only [delLoc] at hL'
  split at hL'
  ·cases hL'
  ·exact ⟨L',hL',Nat.le_refl _,fun _ => rfl⟩
 ·refine ⟨fun k L' hL' => ?_,hn.2⟩
  simp only [delLoc] at hL'
  split at hL'
  ·cases hL'
  ·exact hn.1 k L' hL'
 ·by_cases e : L.cb = cb
  ·subst e; exact ⟨rec',putBlk_same (Array.getElem?_eq_some_iff.1 hr).1⟩
  ·exact ⟨r,(putBlk_other e).trans hr⟩
theorem code_ok {k : Nat} (hS : C.Sound P N) (hcode : CodeOK P C N k) (hseq : SeqOK P C N k) (hstep : StepOK P C N k) (hfunc : FuncOK P C N k) (hloop : LoopOK P C N (k + 1)) : CodeOK P C N (k + 1) := by
 intro base c s H e s' H' h φ w a r B hbase hH hs hm hB hr Q hQ
 cases c with
 | skip => simp only [codeA,Option.some.injEq,Prod.mk.injEq] at h; obtain ⟨rfl,rfl,rfl⟩ := h; exact wpIn_skip (hQ a w φ hH .refl hs hm fun _ _ => rfl)
 | label l => simp only [codeA,Option.some.injEq,Prod.mk.injEq] at h; obtain ⟨rfl,rfl,rfl⟩ := h; exact wpIn_label (hQ a w φ hH .refl hs hm fun _ _ => rfl)
 | ret => simp only [codeA,Option.some.injEq,Prod.mk.injEq] at h; obtain ⟨rfl,rfl,rfl⟩ := h; exact wpIn_ret (hQ a w φ hH .refl hs hm fun _ _ => rfl)
 | exit id => simp only [codeA,Option.some.injEq,Prod.mk.injEq] at h; obtain ⟨rfl,rfl,rfl⟩ := h; exact wpIn_exit (hQ a w φ hH .refl hs hm fun _ _ => rfl)
 | goto l => simp [codeA] at h
 | scope b => simp [codeA] at h
 | refuse y => simp [codeA] at h
 | seq x y =>
  simp only [codeA] at h
  cases hc : codeA P C k base x s H with
  | none => rw [hc] at h; cases h
  | some p =>
   obtain ⟨e1,s1,H1⟩ := p
   rw [hc] at h
   refine wpIn_seq (hcode base x s H e1 s1 H1 hc hbase hH hs hm hB hr _ fun a1 w1 φ1 h1 hx1 hs1 hm1 hl1 => ?_)
   cases e1 with
   | normal =>
    simp only at h
    exact hcode base y s1 H1 e s' H' h (Nat.le_trans hbase hx1.le) h1 hs1 hm1 (Nat.le_trans hB hx1.size) (hr.mono hx1) Q
     fun a' w' φ' h2 hx2 hs2 hm2 hl2 => hQ a' w' φ' h2 (hx1.trans hx2) hs2 hm2 fun b hb => (hl2 b hb).trans (hl1 b hb)
   | exit id => simp only [Option.some.injEq,Prod.mk.injEq] at h; obtain ⟨rfl,rfl,rfl⟩ := h; exact hQ a1 w1 φ1 h1 hx1 hs1 hm1 hl1
   | ret => simp only [Option.some.injEq,Prod.mk.injEq] at h; obtain ⟨rfl,rfl,rfl⟩ := h; exact hQ a1 w1 φ1 h1 hx1 hs1 hm1 hl1
 | cond x y z =>
  simp only [codeA] at h
  have hx := operand_rel hs x
  split at h
  ·rename_i hv
   rw [hv] at hx
   generalize hX : a.eval x = X at hx
   cases hx
   exact wpIn_cond_true hX (hcode base y s H e s' H' h hbase hH hs hm hB hr Q hQ)
  ·rename_i hv
   rw [hv] at hx
   generalize hX : a.eval x = X at hx
   cases hx
   exact wpIn_cond_false hX (hcode base z s H e s' H' h hbase hH hs hm hB hr Q hQ)
  ·cases h
 | block id b =>
  simp only [codeA] at h
  cases hc : codeA P C k base b s H with
  | none => rw [hc] at h; cases h
  | some p =>
   obtain ⟨e1,s1,H1⟩ := p
   rw [hc] at h
   refine wpIn_block (hcode base b s H e1 s1 H1 hc hbase hH hs hm hB hr _ fun a1 w1 φ1 h1 hx1 hs1 hm1 hl1 => ?_)
   cases e1 with
   | normal => simp only [Option.some.injEq,Prod.mk.injEq] at h; obtain ⟨rfl,rfl,rfl⟩ := h; exact hQ a1 w1 φ1 h1 hx1 hs1 hm1 hl1
   | ret => simp only [Option.some.injEq,Prod.mk.injEq] at h; obtain ⟨rfl,rfl,rfl⟩ := h; exact hQ a1 w1 φ1 h1 hx1 hs1 hm1 hl1
   | exit i =>
    simp only at h
    simp only [AExit.toExit,Exit.inBlock]
    split at h
    ·rename_i hi
     simp only [Option.some.injEq,Prod.mk.injEq] at h; obtain ⟨rfl,rfl,rfl⟩ := h
     rw [if_pos hi]; exact hQ a1 w1 φ1 h1 hx1 hs1 hm1 hl1
    ·rename_i hi
     simp only [Option.some.injEq,Prod.mk.injEq] at h; obtain ⟨rfl,rfl,rfl⟩ := h
     rw [if_neg hi]; exact hQ a1 w1 φ1 h1 hx1 hs1 hm1 hl1
 | loop b => exact wpIn_loop_rounds (k + 1) (hloop base b s H e s' H' h hbase hH hs hm hB hr Q hQ)
 | region id ops draw =>
  cases draw with
  | true =>
   simp only [codeA] at h
   split at h
   ·rename_i tr s1 H1 hrt
    split at h
    ·rename_i hok
     simp only [Option.some.injEq,Prod.mk.injEq] at h; obtain ⟨rfl,rfl,rfl⟩ := h
     exact region_draw hS.mixed hstep hrt hok hbase hH hs hm hr hQ
    ·cases h
   ·cases h
  | false =>
   simp only [codeA] at h
   cases hc : seqA P C k base ops ops.toList s H with
   | none => rw [hc] at h; cases h
   | some p =>
    obtain ⟨s1,H1⟩ := p
    rw [hc] at h
    simp only [Option.some.injEq,Prod.mk.injEq] at h; obtain ⟨rfl,rfl,rfl⟩ := h
    refine wpIn_region (hseq base ops ops.toList s H s1 H1 hc (List.range ops.size) ?_ hbase hH hs hm hB hr Q hQ)
    apply List.ext_getElem?
    intro i
    rw [List.getElem?_map,List.getElem?_map]
    rcases Nat.lt_or_ge i ops.size with hi | hi
    ·rw [List.getElem?_range hi,Array.getElem?_toList]; simp [hi]
    ·rw [List.getElem?_eq_none (by simpa using hi),List.getElem?_eq_none (by simpa using hi)]; rfl
 | rangeFunc g ps assign body =>
  simp only [codeA] at h
  have hg := operand_rel hs g
  split at h
  ·rename_i f caps hv
   rw [hv] at hg
   cases hf : funcA P C k base f (.yld H.length :: caps) (H ++ [.loop true none s ps.toList assign body]) with
   | none => rw [hf] at h; cases h
   | some p =>
    obtain ⟨v2,H2⟩ := p
    rw [hf] at h
    simp only at h
    obtain ⟨hent,hcall⟩ := hfunc base f _ _ v2 H2 hf
    generalize hG : a.eval g = G at hg
    cases hg with
    | fn hlc hcaps =>
    rename_i Cs
    have enter : ∀ (w1 : World) (l : Nat) (mark : List Deferred) (dfr : Nat) (fid : FuncId),HR N (addLoc φ H.length ⟨0,l,0⟩) (H ++ [.loop true none s ps.toList assign body]) w1 → Ext φ H.length w (addLoc φ H.length ⟨0,l,0⟩) (H.length + 1) w1 →
     Marks B (addLoc φ H.length ⟨0,l,0⟩) w1 (mark ++ a.defers) →
     CallsIn (Fw r) 0 P f (#[Value.func (Fn.yield l) #[] #[]] ++ Cs) w1 (rangePost (Fw r) 0 P l Q { a with defers := mark ++ a.defers }) := by
     intro w1 l mark dfr fid h1 hx1 hm1
     have hargs : Two (fun v V => RV (addLoc φ H.length ⟨0,l,0⟩) (H ++ [Blk.loop true none s ps.toList assign body]).length w1 v V) (.yld H.length :: caps) (#[Value.func (Fn.yield l) #[] #[]] ++ Cs).toList := by
      rw [Array.toList_append]
      refine .cons (.yld (by simp) fun L hL _ => ?_) (Two.of_get (by simp [hlc]) fun i x y hx hy => ?_)
      ·simp only [addLoc,if_true,Option.some.injEq] at hL; subst hL; rfl
      ·exact (hcaps i x y hx (by simpa using hy)).mono (by simpa using hx1)
     refine callsIn_any ((hcall (by simpa using Nat.le_succ_of_le hbase) h1 hargs).mono ?_)
     rintro e2 w2 ⟨V,φ2,rfl,hv2,h2,hx2,hl2⟩
     have hlow : ∀ b,b < base → (H2.set H.length .dead)[b]? = H[b]? := by
      intro b hb
      rw [List.getElem?_set_ne (by omega),hl2 b hb,List.getElem?_append_left (by omega)]
     have hxx : Ext φ H.length w φ2 H2.length w2 := hx1.trans (by simpa using hx2)
     have finish : ∀ ready pend sl p1 a1 b1,H2[H.length]? = some (.loop ready pend sl p1 a1 b1) → (ready = true ∧ pend = none ∨ ready = false ∧ pend ≠ none) →
      ∃ w3,(Instr.endLoop l).run P w2 = .ok pend w3 ∧ ∃ φ3,HR N φ3 (H2.set H.length .dead) w3 ∧ Ext φ H.length w φ3 (H2.set H.length .dead).length w3 ∧ Marks B φ3 w3 (mark ++ a.defers) := by
      intro ready pend sl p1 a1 b1 hblk hst
      obtain ⟨L,rec,g1,g2,g3,g4,g5,g6,g7,g8,g9⟩ := h2.loop _ _ _ _ _ _ _ hblk
      have hcb : L.cb = l := by
       obtain ⟨L0,e1,e2,e3⟩ := hx2.loc H.length (by simp) L g1
       simp only [addLoc,if_true,Option.some.injEq] at e1
       subst e1
       rw [← e3 (by simp; omega)]
      have hnb : rec.state ≠ .busy := by
       rw [g4]
       rcases hst with ⟨rfl,rfl⟩ | ⟨rfl,hp⟩
       ·simp
       ·cases pend with
        | none => exact absurd rfl hp
        | some c => simp
      obtain ⟨r1,r2⟩ := end_loop h2 g1 (rec' := { rec with state := .exhausted }) g3
      refine ⟨putBlk w2 L.cb (.loop { rec with state := .exhausted }),?_,delLoc φ2 H.length,r1,hxx.trans r2,?_⟩
      ·rw [← hcb,← g5]; exact run_endLoop g3 hnb
      ·exact (hm1.mono hx2).mono r2
     split at h
     ·rename_i sl p1 a1 b1 hblk
      simp only [Option.some.injEq,Prod.mk.injEq] at h; obtain ⟨rfl,rfl,rfl⟩ := h
      obtain ⟨w3,k1,φ3,k2,k3,k4⟩ := finish _ _ _ _ _ _ hblk (.inl ⟨rfl,rfl⟩)
      exact ⟨none,w3,k1,hQ _ w3 φ3 k2 k3 (hs.mono k3) k4 hlow⟩
     ·rename_i c sl p1 a1 b1 hblk
      obtain ⟨w3,k1,φ3,k2,k3,k4⟩ := finish _ _ _ _ _ _ hblk (.inr ⟨rfl,by simp⟩)
      refine ⟨some c,w3,k1,?_⟩
      refine hcode base c s _ e s' H' h (a := { a with defers := mark ++ a.defers }) (by simpa using Nat.le_trans hbase hxx.le) k2 (hs.mono k3) k4 (Nat.le_trans hB k3.size) (hr.mono k3) Q ?_
      intro a' w' φ' h4 hx4 hs4 hm4 hl4
      exact hQ a' w' φ' h4 (k3.trans hx4) hs4 hm4 fun b hb => (hl4 b hb).trans (hlow b hb)
     ·cases h
    refine wpIn_rangeFunc fun fid _ => ?_
    have hres : ∀ (l : Nat) (w1 : World),(resolve a.eval (rangeCall g l) 0).run P w1 = .ok { target := .fn (.func f) Cs,args := #[Value.func (Fn.yield l) #[] #[]] } w1 := by
     intro l w1
     simp only [resolve]
     rw [hG]
     simp [Deferred.ofValue,Act.eval]
    have hinv : ∀ (l : Nat) (w1 : World),(invoke (.fn (.func f) Cs) #[Value.func (Fn.yield l) #[] #[]]).run P w1 = .ok (.enter f (#[Value.func (Fn.yield l) #[] #[]] ++ Cs)) w1 := by
     intro l w1
     simp only [invoke,hent]
    cases r with
    | none =>
     have hrec : HR N (addLoc φ H.length ⟨0,w.heap.size + 1,0⟩) (H ++ [.loop true none s ps.toList assign body]) ((w.alloc (.deferred (some []))).alloc (.loop { state := .ready,pending := none,fn := fid,tmps := a.tmps,params := ps,assign,body,defers := w.heap.size })) := by
      have h0 := hH.alloc_out (.deferred (some []))
      have := h0.alloc (.loop { state := .ready,pending := none,fn := fid,tmps := a.tmps,params := ps,assign,body,defers := w.heap.size }) 0 0 (.loop true none s ps.toList assign body) (by simp) (by simp) (by simp)
       (by intro _ _ _ _ _ _ e'; cases e'; exact ⟨_,rfl,rfl,by simp,rfl,rfl,rfl,rfl,hs.mono (Ext.alloc_out _)⟩)
      simpa using this
     have hx : Ext φ H.length w (addLoc φ H.length ⟨0,w.heap.size + 1,0⟩) (H.length + 1) ((w.alloc (.deferred (some []))).alloc (.loop { state := .ready,pending := none,fn := fid,tmps := a.tmps,params := ps,assign,body,defers := w.heap.size })) := by
      have h1 : Ext φ H.length w φ H.length (w.alloc (.deferred (some []))) := Ext.alloc_out _
      have h2 := h1.trans (Ext.alloc (.loop { state := .ready,pending := none,fn := fid,tmps := a.tmps,params := ps,assign,body,defers := w.heap.size }) 0 0)
      simpa using h2
     refine ⟨w.heap.size + 1,[{ target := .collected w.heap.size,args := #[] }],_,_,_,f,_,_,run_enterLoop_outer _ _ _ _ _,hres _ _,fun _ _ => trivial,hinv _ _,fun hd => by simp [Fw,Fence.wide] at hd,enter _ _ _ 0 fid hrec hx ?_⟩
     refine .cons hB ?_ ?_ ?_ (hm.mono hx)
     ·exact (heap_alloc_old (by simp)).trans heap_alloc_new
     ·refine ⟨fun k L hL => ?_,fun hres => by have := hH.ress _ hres; simp at this⟩
      simp only [addLoc] at hL
      split at hL
      ·cases hL; simp
      ·exact hH.fresh_cb hL
     ·intro d hd ht
      have : ∀ {ds : List Deferred},Marks B φ w ds → ∀ d ∈ ds,d.target ≠ Target.collected w.heap.size := by
       intro ds hmk
       induction hmk with
       | nil => intro d hd; simp at hd
       | cons _ hk _ _ _ ih =>
        intro d hd
        rcases List.mem_cons.1 hd with rfl | hd
        ·intro e'; cases e'; have := (Array.getElem?_eq_some_iff.1 hk).1; omega
        ·exact ih d hd
      exact this hm d hd ht
    | some l0 =>
     obtain ⟨rec0,hrec0⟩ := hr l0 rfl
     have hrec : HR N (addLoc φ H.length ⟨0,w.heap.size,0⟩) (H ++ [.loop true none s ps.toList assign body]) (w.alloc (.loop { state := .ready,pending := none,fn := fid,tmps := a.tmps,params := ps,assign,body,defers := rec0.defers })) :=
      hH.alloc _ 0 0 (.loop true none s ps.toList assign body) (by simp) (by simp) (by simp)
       (by intro _ _ _ _ _ _ e'; cases e'; exact ⟨_,rfl,rfl,by simp,rfl,rfl,rfl,rfl,hs⟩)
     refine ⟨w.heap.size,[],_,_,_,f,_,_,run_enterLoop_inner hrec0 _ _ _ _ _,hres _ _,fun _ _ => trivial,hinv _ _,fun hd => by simp [Fw,Fence.wide] at hd,enter _ _ _ 0 fid hrec (Ext.alloc _ 0 0) (hm.mono (Ext.alloc _ 0 0 : Ext φ H.length w _ _ _))⟩
  ·cases h
theorem all_ok (hS : C.Sound P N) : ∀ k,CodeOK P C N k ∧ SeqOK P C N k ∧ StepOK P C N k ∧ CallOK P C N k ∧ FuncOK P C N k ∧ LoopOK P C N k := by
 intro k
 induction k with
 | zero =>
  refine ⟨?_,?_,?_,?_,?_,?_⟩
  ·intro base c s H e s' H' h; simp [codeA] at h
  ·intro base ops l s H s' H' h; simp [seqA] at h
  ·intro base ops o s H v H' h; simp [stepA] at h
  ·intro base f args H v H' h; unfold callA at h; cases h
  ·intro base f args H v H' h; simp [funcA] at h
  ·intro base c s H e s' H' h; simp [codeA] at h
 | succ k ih =>
  obtain ⟨h1,h2,h3,h4,h5,h6⟩ := ih
  have hl := loop_ok h1 h6
  exact ⟨code_ok hS h1 h2 h3 h5 hl,seq_ok h3 h2,step_ok hS h4,call_ok h5 h1,func_ok hS h1,hl⟩
end Go.Proofs.Ev
namespace Go.Proofs.Ev
open Go.Proofs
variable {N : Low} {φ : Phi} {H : Heap} {w w' : World}
set_option maxRecDepth 100000 in
set_option maxHeartbeats 1000000 in
theorem call_clone (a : Addr) (cap : Nat) : CallsIn (Fw none) 0 Tryz.prog 131 #[.slice (some a) 0 cap] w fun e w2 => e = .returned (.slice (some ⟨w.heap.size,0,none⟩) 0 0) ∧ w2 = w.alloc (Obj.cells #[] 25) := by
 refine callsIn_of_wp Tryz.func131 rfl trivial ?_ rfl
 have hn : Tryz.f131.ntmps = 8 := rfl
 simp only [hn,List.size_toArray,List.length_cons,List.length_nil,Nat.reduceAdd,Nat.reduceSub,Array.replicate_succ,Array.replicate_zero,List.push_toArray,List.append_toArray,List.nil_append,List.cons_append]
 gi_wp2
 rw [Lib.run_eql_slice_nil w 60 25 (some a) 0 cap 0 0 (by kernel_rfl)]
 simp only [Result.andThen,Option.isNone]
 gi_wp2
 go_ret
 exact ⟨rfl,rfl⟩
set_option maxRecDepth 100000 in
set_option maxHeartbeats 1000000 in
theorem call_clone0 (cap : Nat) : CallsIn (Fw none) 0 Tryz.prog 131 #[.slice none 0 cap] w fun e w2 => e = .returned (.slice none 0 0) ∧ w2 = w := by
 refine callsIn_of_wp Tryz.func131 rfl trivial ?_ rfl
 have hn : Tryz.f131.ntmps = 8 := rfl
 simp only [hn,List.size_toArray,List.length_cons,List.length_nil,Nat.reduceAdd,Nat.reduceSub,Array.replicate_succ,Array.replicate_zero,List.push_toArray,List.append_toArray,List.nil_append,List.cons_append]
 gi_wp2
 rw [Lib.run_eql_slice_nil w 60 25 none 0 cap 0 0 (by kernel_rfl)]
 simp only [Result.andThen,Option.isNone]
 gi_wp2
 go_ret
 exact ⟨rfl,rfl⟩
def cfg0 : Cfg := ⟨fun _ => none,fun _ => false,fun _ => false,fun _ => none⟩
theorem names_ok : ∀ (f : Nat) (fn : Func),Tryz.prog.funcs[f]? = some fn → fn.body.isSome = true → (fn.name == "runtime.NumGoroutine") = false := by
 have h : Tryz.prog.funcs.all (fun fn => !(fn.body.isSome && fn.name == "runtime.NumGoroutine")) = true := by kernel_rfl
 intro f fn hf hb
 obtain ⟨hi,rfl⟩ := Array.getElem?_eq_some_iff.1 hf
 have := (Array.all_eq_true.1 h) f hi
 rw [hb] at this
 simpa using this
theorem cfg0_sound {N : Low} (hT : TagOK Tryz.prog N) : cfg0.Sound Tryz.prog N := ⟨⟨fun _ _ h => by cases h⟩,by kernel_rfl,hT,names_ok,fun _ _ h => by cases h⟩
open Classical in
noncomputable def evalP (P : Program) (C : Cfg) (f : FuncId) (base : Nat) (args : List AV) (H : Heap) : Option (AV × Heap) :=
 if h : ∃ r,∃ n,funcA P C n base f args H = some r then some (Classical.choose h) else none
theorem evalP_some {P : Program} {C : Cfg} {f : FuncId} {base : Nat} {args : List AV} {H : Heap} {r : AV × Heap} (h : evalP P C f base args H = some r) : ∃ n,funcA P C n base f args H = some r := by
 unfold evalP at h
 split at h
 ·rename_i h0
  cases h
  exact Classical.choose_spec h0
 ·cases h
theorem evalP_eq {P : Program} {C : Cfg} {f : FuncId} {base : Nat} {args : List AV} {H : Heap} {v : AV} {H' : Heap} (h : FuncW P C base f args H fun v' X => v' = v ∧ X = H') : evalP P C f base args H = some (v,H') := by
 obtain ⟨n,v1,X,h1,rfl,rfl⟩ := h
 have h0 : ∃ r,∃ n,funcA P C n base f args H = some r := ⟨_,n,h1⟩
 unfold evalP
 rw [dif_pos h0]
 obtain ⟨m,h2⟩ := Classical.choose_spec h0
 have e1 := funcA_mono (Nat.le_max_left n m) h1
 have e2 := funcA_mono (Nat.le_max_right n m) h2
 rw [e1] at e2
 rw [← Option.some.inj e2]
theorem evalP_ok {P : Program} {C : Cfg} {N : Low} (hC : C.Sound P N) {f : FuncId} (hb : ∃ fn : Func,P.funcs[f]? = some fn ∧ fn.body.isSome = true) : PrimOK P N f (evalP P C f) := by
 refine ⟨hb,fun base args H v H' h φ w Vs hbs hH ht => ?_⟩
 obtain ⟨n,h1⟩ := evalP_some h
 exact ((all_ok hC n).2.2.2.2.1 base _ args H v H' h1).2 hbs hH ht
noncomputable def pClone (base : Nat) (args : List AV) (H : Heap) : Option (AV × Heap) :=
 match args with
 | [.lst [] _] => some (.lst [] true,H)
 | [.nils] => some (.lst [] true,H)
 | _ => evalP Tryz.prog cfg0 131 base args H
theorem clone_ok {N : Low} (hT : TagOK Tryz.prog N) : PrimOK Tryz.prog N 131 pClone := by
 refine ⟨⟨_,Tryz.func131,rfl⟩,fun base args H v H' h φ w Vs hb hH ht => ?_⟩
 unfold pClone at h
 split at h
 ·rename_i e
  cases h
  obtain ⟨X,rfl,h1⟩ := two_one ht
  cases h1 with
  | lst Vs esz hlen hcap he hb hr =>
   rename_i bs len cap
   have hl0 : len = 0 := hlen
   subst hl0
   cases bs with
   | none =>
    refine (call_clone0 cap).mono ?_
    rintro e w' ⟨rfl,rfl⟩
    exact ⟨_,φ,rfl,.lst (fun _ _ => .pointer none) 0 rfl (Nat.le_refl _) (fun _ => rfl) (fun h => absurd rfl h) (fun i row hi => by simp at hi),hH,Ext.refl,fun _ _ => rfl⟩
   | some a =>
    refine (call_clone a cap).mono ?_
    rintro e w' ⟨rfl,rfl⟩
    exact ⟨_,φ,rfl,.lst (fun _ _ => .pointer none) 0 rfl (Nat.le_refl _) (fun _ => rfl) (fun h => absurd rfl h) (fun i row hi => by simp at hi),hH.alloc_out _,Ext.alloc_out _,fun _ _ => rfl⟩
 ·cases h
  obtain ⟨X,rfl,h1⟩ := two_one ht
  cases h1
  refine (call_clone0 0).mono ?_
  rintro e w' ⟨rfl,rfl⟩
  exact ⟨_,φ,rfl,.lst (fun _ _ => .pointer none) 0 rfl (Nat.le_refl _) (fun _ => rfl) (fun h => absurd rfl h) (fun i row hi => by simp at hi),hH,Ext.refl,fun _ _ => rfl⟩
 ·exact (evalP_ok (cfg0_sound hT) ⟨_,Tryz.func131,rfl⟩).2 base args H v H' h φ w Vs hb hH ht
end Go.Proofs.Ev
namespace Go.Proofs.Ev
open Go.Proofs
variable {C : Cfg}
structure PatchV.Fit (p : PatchV) : Prop where
 ok : p.Ok
 ok2 : p.Ok2
 deps : p.deps.length ≤ 1000
 changes : p.changes.length ≤ 1000
 over : ∀ c ∈ p.changes,c.over.length ≤ 400
 atoms : (checkL p).length ≤ 2 ^ 20
 atomOver : ∀ x ∈ checkL p,x.over.length ≤ 2 ^ 10
theorem nodess_le {b : Nat} : ∀ {l : List SX},(∀ x ∈ l,x.nodes ≤ b) → SX.nodess l ≤ b * l.length
 | [],_ => by simp [SX.nodess]
 | x :: l,h => by
  have := nodess_le (l := l) fun y hy => h y (by simp [hy])
  have := h x (by simp)
  simp only [SX.nodess,List.length_cons,Nat.mul_add]; omega
theorem nodess_append : ∀ a b : List SX,SX.nodess (a ++ b) = SX.nodess a + SX.nodess b
 | [],b => by simp [SX.nodess]
 | x :: a,b => by simp only [List.cons_append,SX.nodess,nodess_append a b]; omega
theorem nodes_list (l : List SX) (k : SK) : (listX l k).nodes = SX.nodess l + 1 := rfl
theorem nodes_atom (s : List UInt8) : (atomX s).nodes = 1 := rfl
theorem nodes_num (n : Int) : (numX n).nodes = 1 := rfl
theorem nodes_dig (d : List Nat) : (digX d).nodes = 1 := by unfold digX; split <;> rfl
theorem nodes_ref (x : IdV) : (refX x).nodes = 3 := by simp [refX,nodes_list,SX.nodess,nodes_dig,nodes_num]
theorem nodes_over (l : List IdV) : (overX l).nodes ≤ 3 * l.length + 1 := by
 have := nodess_le (l := l.map refX) (b := 3) fun x hx => by obtain ⟨y,_,rfl⟩ := List.mem_map.1 hx; rw [nodes_ref]; omega
 rw [overX,nodes_list]; simp at this; omega
theorem nodes_lines (l : List (List UInt8)) : (linesX l).nodes ≤ l.length + 1 := by
 have := nodess_le (l := l.map atomX) (b := 1) fun x hx => by obtain ⟨y,_,rfl⟩ := List.mem_map.1 hx; rw [nodes_atom]; omega
 rw [linesX,nodes_list]; simp at this; omega
theorem nodes_chg (c : ChV) (h1 : c.lines.length ≤ 40) (h2 : c.over.length ≤ 40) : (chgX c).nodes ≤ 200 := by
 have a1 : SX.nodess (chg1 c) ≤ 3 := by unfold chg1; split <;> simp [SX.nodess,nodes_ref]
 have a2 : SX.nodess (chg2 c) ≤ 6 := by unfold chg2; repeat' split
                                        all_goals simp [SX.nodess,nodes_ref,nodes_num,nodes_atom]
 have a3 : SX.nodess (chg3 c) ≤ 130 := by
  have := nodes_over c.over
  have := nodes_lines c.lines
  unfold chg3; repeat' split
  all_goals simp [SX.nodess]
  all_goals omega
 rw [chgX,nodes_list,chgL,SX.nodess,nodess_append,nodess_append,nodes_num]; omega
theorem nodes_tree (p : PatchV) (h1 : p.deps.length ≤ 20) (h2 : p.changes.length ≤ 20) (h3 : ∀ c ∈ p.changes,c.lines.length ≤ 40 ∧ c.over.length ≤ 40) : (treeX p).nodes ≤ 2 ^ 40 := by
 have a1 := nodess_le (l := p.deps.map fun d => digX d.d) (b := 1) fun x hx => by obtain ⟨y,_,rfl⟩ := List.mem_map.1 hx; rw [nodes_dig]; omega
 have a2 := nodess_le (l := p.changes.map chgX) (b := 200) fun x hx => by obtain ⟨y,hy,rfl⟩ := List.mem_map.1 hx; exact nodes_chg y (h3 y hy).1 (h3 y hy).2
 simp only [List.length_map] at a1 a2
 simp only [treeX,nodes_list,SX.nodess,nodes_atom,nodes_num]; omega
theorem made_over {c : ChV} {f : Nat} : ∀ x ∈ madeV c f,x.over = [] ∨ x.over = c.over := by
 intro x hx
 unfold madeV at hx
 repeat' split at hx
 all_goals first
  | (simp only [List.mem_singleton] at hx; subst hx; simp [zeroAt]; done)
  | (rcases List.mem_append.1 hx with hx | hx <;> obtain ⟨i,_,rfl⟩ := List.mem_map.1 hx <;> exact .inl rfl)
theorem made_len2 (c : ChV) (f : Nat) (h : c.lines.length ≤ 40) : (madeV c f).length ≤ 81 := by
 unfold madeV; repeat' split
 all_goals simp
 all_goals omega
theorem chgE_bound : ∀ (l : List ChV) (own : List AtV),(∀ c ∈ l,c.lines.length ≤ 40 ∧ c.over.length ≤ 40) → (∀ x ∈ own,x.over.length ≤ 40) → (chgE l own).2.length ≤ own.length + 81 * l.length ∧ ∀ x ∈ (chgE l own).2,x.over.length ≤ 40
 | [],own,_,ho => by simp [chgE]; exact ho
 | c :: l,own,h,ho => by
  rw [chgE]
  by_cases h1 : fieldsE c ≠ 0
  ·rw [if_pos h1]; simp
  ·rw [if_neg h1]
   by_cases h2 : refE c own ≠ 0
   ·rw [if_pos h2]; simp
   ·rw [if_neg h2]
    have hc := h c (by simp)
    have hm := made_len2 c own.length hc.1
    have := chgE_bound l (own ++ madeV c own.length) (fun c hc => h c (by simp [hc])) (by
     intro x hx
     rcases List.mem_append.1 hx with hx | hx
     ·exact ho x hx
     ·rcases made_over x hx with h | h <;> rw [h]
      ·simp
      ·exact hc.2)
    refine ⟨?_,this.2⟩
    have h3 := this.1
    simp only [List.length_append,List.length_cons] at h3 ⊢; omega
theorem fit_of {p : PatchV} (hs : p.Sz) (hg : great16 p = false) : p.Fit ∧ p.deps.length ≤ 20 ∧ p.changes.length ≤ 20 ∧ ∀ c ∈ p.changes,c.lines.length ≤ 40 ∧ c.over.length ≤ 40 := by
 unfold great16 at hg
 simp only [Bool.or_eq_false_iff,decide_eq_false_iff_not,Nat.not_lt,List.any_eq_false] at hg
 obtain ⟨h1,⟨_,h2⟩,h3⟩ := hg
 have h4 : ∀ c ∈ p.changes,c.lines.length ≤ 40 ∧ c.over.length ≤ 40 := by
  intro c hc
  have := h1 c hc
  simp only [bigC,great4,Bool.or_eq_true,decide_eq_true_eq,not_or,Nat.not_lt] at this
  exact ⟨this.1.1,this.2⟩
 have ha := hs.author
 have hm := hs.message
 have hb := chgE_bound p.changes [] h4 (by simp)
 have hL : checkL p = [] ∨ checkL p = (chgE p.changes []).2 := by unfold checkL; split <;> simp
 have hok : ∀ c ∈ p.changes,c.Ok := fun c hc => ⟨by have := (hs.changes c hc).name; omega,by have := (hs.changes c hc).data; omega,fun x hx => by have := (hs.changes c hc).lines x hx; omega,by have := (h4 c hc).1; omega,by have := (h4 c hc).2; omega⟩
 refine ⟨⟨⟨by omega,by omega,by omega,by omega,hok⟩,⟨by omega,by omega,fun c hc => ⟨by have := (h4 c hc).1; omega,by have := (h4 c hc).2; omega⟩,nodes_tree p h2 h3 h4⟩,by omega,by omega,fun c hc => by have := (h4 c hc).2; omega,?_,?_⟩,h2,h3,h4⟩
 ·rcases hL with h | h <;> rw [h]
  ·simp
  ·have := hb.1; simp at this; omega
 ·intro x hx
  rcases hL with h | h <;> rw [h] at hx
  ·simp at hx
  ·have := hb.2 x hx; omega
structure SetFit (s : List StoredV) : Prop where
 n : s.length ≤ 8
 p : ∀ x ∈ s,x.patch.Fit
theorem setFit_of {s : List StoredV} (hs : SetSz s) (hg : heavyB s = false) : SetFit s := by
 unfold heavyB at hg
 simp only [Bool.or_eq_false_iff,decide_eq_false_iff_not,Nat.not_lt,List.any_eq_false] at hg
 obtain ⟨h1,h2,_⟩ := hg
 refine ⟨h2,fun x hx => (fit_of (hs.p x hx) ?_).1⟩
 have := h1 x (by rw [List.take_of_length_le (by omega)]; exact hx)
 simpa using this
def zeroP : PatchV := ⟨[],[],0,[],.nil,[],.nil⟩
theorem zeroP_fit : zeroP.Fit := by
 refine (fit_of ⟨by simp [zeroP],by simp [zeroP],by simp [zeroP],by simp [zeroP],by simp [zeroP]⟩ ?_).1
 simp [great16,zeroP,sumP]
end Go.Proofs.Ev
namespace Go.Proofs.Ev
open Go.Proofs
variable {C : Cfg}
theorem ret_ids (S : Setting8 C) (l : List StoredV) (k : SK) (hl : l.length ≤ 2 ^ 20) : Ret Tryz.prog C 35 [] [slAV k (l.map StoredV.cells)] (slAV (exK l) ((l.map fun x => x.id).map DigV.cells)) := by
 refine ret_pure (S.pure7 _ (by decide)) fun H => func_rule Tryz.func35 rfl (S.prim _ (by decide)) (by simp) (by kernel_rfl) ?_
 unfold Tryz.f35
 simp [argS,buildSliceA,fillRows]
 refine loop_count l.length (fun i s H' => ∃ J,H' = H ++ J ∧ s 0 = slAV k (l.map StoredV.cells) ∧ s 4 = .int .i64 i ∧ GrowX H.length 32 J (s 3) (((l.take i).map fun x => x.id).map DigV.cells) ∧ (i = 0 → s 3 = .lst [] true) ∧ (s 3 = .lst [] true ∨ ∃ b g l,s 3 = .sl b g 32 0 l)) ?_ ?_
 ·exact ⟨[],by simp,rfl,rfl,.lst [],fun _ => rfl,.inl rfl⟩
 rintro i s H' ⟨J,rfl,e0,e4,hg,hz,hz2⟩ hi
 by_cases h : i < l.length
 ·obtain ⟨v',J',ha,hg',hs'⟩ := app_dg (H0 := H) (Z := H) rfl (Nat.le_refl _) (x := .lst [l[i].id.cells] true) (ys := [l[i].id]) hg rfl (by simp; omega)
  have et : (l.take (i + 1)).map (fun x => x.id) = (l.take i).map (fun x => x.id) ++ [l[i].id] := by
   rw [List.take_add_one,List.getElem?_eq_getElem h,List.map_append]; rfl
  rw [← et] at hg'
  simp [e0,e4,h,buildSliceA,fillRows,ha,show digest0.length = 32 from rfl,wrap_succ h (by omega)]
  exact ⟨by simpa using hg',.inr (hs' (.inl (by simp)))⟩
 ·have h' : i = l.length := by omega
  subst h'
  rw [List.take_length] at hg
  simp [e0,e4]
  have hf := hg.freezeE (Z := H) (L := []) (k := H.length) (d := 2) rfl (Nat.le_refl _) (closedss_map DigV.closed _) (fun h => hz (by simpa using h)) hz2
  rw [List.append_nil] at hf
  rw [hf]
  have hk : exK ((l.map fun x => x.id).map DigV.cells) = exK l := by unfold exK; cases l <;> rfl
  rw [hk,List.map_map]
def getP (s : List StoredV) (d : List Nat) : PatchV := match s.find? (fun x => decide (x.id.d = d)) with | some x => x.patch | none => zeroP
def hasS (s : List StoredV) (d : List Nat) : Bool := (s.find? fun x => decide (x.id.d = d)).isSome
@[simp] theorem zeroP_cells : [AV.str [],.str [],.int .i64 0,.nils,.nils] = zeroP.cells := rfl
theorem getP_fit {s : List StoredV} (hs : SetFit s) (d : List Nat) : (getP s d).Fit := by
 unfold getP
 split
 ·rename_i x hx; exact hs.p x (List.mem_of_find?_eq_some hx)
 ·exact zeroP_fit
set_option maxHeartbeats 1000000 in
theorem ret_get17 (S : Setting8 C) (l : List StoredV) (k : SK) (d : DigV) (hl : l.length ≤ 2 ^ 20) : Ret Tryz.prog C 182 [] [slAV k (l.map StoredV.cells),.agg d.cells] (.tup [.agg (getP l d.d).cells,.bool (hasS l d.d)]) := by
 refine ret_pure (S.pure7 _ (by decide)) fun H => func_rule Tryz.func182 rfl (S.prim _ (by decide)) (by simp) (by kernel_rfl) ?_
 unfold Tryz.f182
 have e := eq_digV S.toSetting
 simp [argS]
 refine loop_count l.length (fun i s H' => H' = H ++ [.rows 32 0 [d.cells],.rows 5 0 [zeroP.cells]] ∧ s 0 = slAV k (l.map StoredV.cells) ∧ s 3 = .ptr H.length 0 32 0 0 ∧ s 4 = .ptr (H.length + 1) 0 5 0 0 ∧ s 6 = .int .i64 i ∧ l.find? (fun x => decide (x.id.d = d.d)) = (l.drop i).find? (fun x => decide (x.id.d = d.d))) ?_ ?_
 ·exact ⟨rfl,rfl,rfl,rfl,rfl,rfl⟩
 rintro i s H' ⟨rfl,e0,e3,e4,e6,hc⟩ hi
 by_cases h : i < l.length
 ·rw [List.drop_eq_getElem_cons h,List.find?_cons] at hc
  by_cases hd : l[i].id.d = d.d
  ·rw [show decide (l[i].id.d = d.d) = true by simpa using hd] at hc
   have h1 : getP l d.d = l[i].patch := by unfold getP; rw [hc]
   have h2 : hasS l d.d = true := by unfold hasS; rw [hc]; rfl
   rw [h1,h2]
   simp [e0,e3,e4,e6,h,e,hd,storeA]
   exact freeze_two (freeze_closed (v := .agg _) (PatchV.closed _)) (by simp)
  ·rw [show decide (l[i].id.d = d.d) = false by simpa using hd] at hc
   simp [e0,e3,e4,e6,h,e,hd,wrap_succ h (by omega)]
   exact hc
 ·have h' : i = l.length := by omega
  subst h'
  rw [List.drop_length] at hc
  have h1 : getP l d.d = zeroP := by unfold getP; rw [hc]; rfl
  have h2 : hasS l d.d = false := by unfold hasS; rw [hc]; rfl
  rw [h1,h2]
  simp [e0,e3,e4,e6,storeA,fillA]
  exact freeze_two (freeze_closed (v := .agg _) (PatchV.closed _)) (by simp)
end Go.Proofs.Ev
