/- Part 6 of the proof that quiltlaw38.BlameEvents returns true: no statement of its own. -/
import Derived.Test.YtckbkhfaahpanaaGreatDoorE0
import Derived.Test.YtckbkhfaahpanaaGreatDoorE5
set_option linter.all false
namespace Go.Proofs.Ev
variable {P : Program} {C : Cfg} {N base : Nat}
mutual
theorem beq_refl : ∀ a : AV,AV.beq a a = true
 | .undef => rfl
 | .bool b => by simp [AV.beq]
 | .int k n => by simp [AV.beq]
 | .str s => by simp [AV.beq]
 | .nilp => rfl
 | .ptr .. => by simp [AV.beq]
 | .eptr a => by simp [AV.beq,beqs_refl a]
 | .lst a _ => by simp [AV.beq,beqss_refl a]
 | .nils => rfl
 | .sl .. => by simp [AV.beq]
 | .asl .. => by simp [AV.beq]
 | .nilm => rfl
 | .map _ => by simp [AV.beq]
 | .nilf => rfl
 | .fn _ a => by simp [AV.beq,beqs_refl a]
 | .yld _ => by simp [AV.beq]
 | .agg a => by simp [AV.beq,beqs_refl a]
 | .tup a => by simp [AV.beq,beqs_refl a]
theorem beqs_refl : ∀ a : List AV,AV.beqs a a = true
 | [] => rfl
 | a :: l => by simp [AV.beqs,beq_refl a,beqs_refl l]
theorem beqss_refl : ∀ a : List (List AV),AV.beqss a a = true
 | [] => rfl
 | a :: l => by simp [AV.beqss,beqs_refl a,beqss_refl l]
end
theorem cutS_get' {s : List AV} {t : Nat} : ∀ (l : List Nat) (m : List AV),m.length = s.length → (m[t]? = s[t]? ∨ t ∈ l) → (l.foldl (fun m t => m.set t (s.getD t .undef)) m)[t]? = s[t]?
 | [],m,_,h => by simpa using h
 | u :: l,m,hl,h => by
  rw [List.foldl_cons]
  refine cutS_get' l _ (by simpa using hl) ?_
  by_cases e : u = t
  ·subst e
   left
   by_cases hu : u < s.length
   ·rw [List.getElem?_set_self (by omega),List.getD_eq_getElem?_getD,List.getElem?_eq_getElem hu]; rfl
   ·rw [List.getElem?_eq_none (by simp; omega),List.getElem?_eq_none (by omega)]
  ·rw [List.getElem?_set_ne e]
   rcases h with h | h
   ·exact .inl h
   ·rcases List.mem_cons.1 h with h | h
    ·exact absurd h.symm e
    ·exact .inr h
theorem cutS_get {l : List Tmp} {s : List AV} {t : Nat} (h : t ∈ l) : (cutS l s)[t]? = s[t]? := cutS_get' l _ (by simp) (.inr h)
theorem opA_congr {H : Heap} {ρ ρ' : Operand → AV} {o : Oper} (h : ∀ x ∈ o.op.operands,ρ x = ρ' x) : opA P C base H ρ o = opA P C base H ρ' o := by
 unfold opA
 cases ho : o.op with
 | call c =>
  rw [ho] at h
  obtain ⟨callee,args,ats⟩ := c
  have hargs : ∀ (i : Nat) (x : Operand),args[i]? = some x → ρ x = ρ' x := by
   intro i x hx
   refine h x ?_
   simp only [Op.operands,Call.operands,Array.mem_append]
   exact .inr (Array.mem_of_getElem? hx)
  cases callee with
  | builtin b =>
   cases b with
   | len =>
    simp only
    cases h1 : args[0]? with
    | none => cases ats[0]? <;> rfl
    | some x =>
     cases ats[0]? with
     | none => rfl
     | some t => simp only [hargs 0 x h1]
   | clear =>
    simp only
    cases h1 : args[0]? with
    | none => cases ats[0]? <;> rfl
    | some x =>
     cases ats[0]? with
     | none => rfl
     | some t => simp only [hargs 0 x h1]
   | append =>
    simp only
    cases h1 : args[0]? with
    | none => simp
    | some x =>
     cases h2 : args[1]? with
     | none => simp
     | some y => simp only [hargs 0 x h1,hargs 1 y h2]
   | _ => rfl
  | _ => rfl
 | build t ps =>
  rw [ho] at h
  simp only
  have : (ps.toList.map fun x => (x.1,ρ x.2)) = ps.toList.map fun x => (x.1,ρ' x.2) :=
   List.map_congr_left fun x hx => by rw [h x.2 (by simp only [Op.operands]; simp; exact ⟨x.1,by simpa using hx⟩)]
  rw [this]
 | buildSlice t len ps =>
  rw [ho] at h
  simp only
  have : (ps.toList.map fun x => (x.1,ρ x.2)) = ps.toList.map fun x => (x.1,ρ' x.2) :=
   List.map_congr_left fun x hx => by rw [h x.2 (by simp only [Op.operands]; simp; exact ⟨x.1,by simpa using hx⟩)]
  rw [this]
 | makeFunc f first caps =>
  rw [ho] at h
  cases f with
  | func f =>
   simp only
   have : caps.toList.map ρ = caps.toList.map ρ' := List.map_congr_left fun x hx => h x (by simp only [Op.operands,Array.mem_append]; exact .inr (by simpa using hx))
   rw [this]
  | _ => rfl
 | next x b =>
  rw [ho] at h
  have h1 := h x (by simp [Op.operands])
  cases b with
  | true => rfl
  | false => simp only [h1]
 | slice t x lo hi mx =>
  rw [ho] at h
  simp only [Op.operands,Array.mem_append] at h
  have h1 := h x (by simp)
  have h2 : lo.map ρ = lo.map ρ' := by
   cases lo with
   | none => rfl
   | some y => simp [h y (by simp)]
  have h3 : hi.map ρ = hi.map ρ' := by
   cases hi with
   | none => rfl
   | some y => simp [h y (by simp)]
  have h4 : mx.map ρ = mx.map ρ' := by
   cases mx with
   | none => rfl
   | some y => simp [h y (by simp)]
  simp only [h1,h2,h3,h4]
 | makeMap t r => cases r <;> rfl
 | _ =>
  rewrite [ho] at h
  simp [Op.operands] at h
  first
   | rfl
   | simp only [h]
theorem looks_op {ops : Array Oper} {o : Oper} {t : Tmp} (h : Operand.tmp t ∈ o.op.operands) : t ∈ looks ops o := by
 unfold looks
 rw [List.mem_append]
 left
 rw [List.mem_filterMap]
 exact ⟨.tmp t,by simpa using h,rfl⟩
theorem eval_cut {ops : Array Oper} {o : Oper} {l : List AV} {x : Operand} (h : x ∈ o.op.operands) : evalOperand (cutS (looks ops o) l) x = evalOperand l x := by
 cases x with
 | tmp t => simp only [evalOperand,List.getD_eq_getElem?_getD,cutS_get (looks_op h)]
 | _ => rfl
theorem wanted_cut {ops : Array Oper} {o : Oper} {l : List AV} : wantedA ops (cutS (looks ops o) l) o = wantedA ops l o := by
 unfold wantedA
 cases hg : o.guard with
 | none => rfl
 | some jw =>
  obtain ⟨j,want⟩ := jw
  simp only
  cases hd : (ops[j]?).bind (·.dst) with
  | none => rfl
  | some d =>
   simp only
   rw [cutS_get (by unfold looks; rw [hg]; simp [hd])]
theorem step_cut {n : Nat} {ops : Array Oper} {o : Oper} {l : List AV} {H : Heap} : stepA P C n base ops o (cutS (looks ops o) l) H = stepA P C n base ops o l H := by
 cases n with
 | zero => unfold stepA; rfl
 | succ n =>
  unfold stepA
  rw [wanted_cut]
  split
  ·rename_i hw
   split
   ·rename_i f args ats e
    have h1 : evalOperand (cutS (looks ops o) l) f = evalOperand l f := eval_cut (by rw [e]; simp [Op.operands,Call.operands])
    have h2 : args.toList.map (evalOperand (cutS (looks ops o) l)) = args.toList.map (evalOperand l) := List.map_congr_left fun x hx => eval_cut (by rw [e]; simp only [Op.operands,Call.operands,Array.mem_append]; exact .inr (by simpa using hx))
    rw [h1,h2]
   ·exact opA_congr fun x hx => eval_cut hx
  ·rfl
  ·rfl
theorem cls_cut {ops : Array Oper} {o : Oper} {l : List AV} : clsA P ops (cutS (looks ops o) l) o = clsA P ops l o := by unfold clsA; rw [wanted_cut]
def befS (ops : Array Oper) : Nat → Nat → Bool := let B := befGo ops.toList []; fun k i => (B.getD i 0).testBit k
def clsS (P : Program) (ops : Array Oper) (i : Nat) : Nat := match ops[i]? with | some o => kindA P o.op | none => 0
def statB (P : Program) (ops : Array Oper) : Bool :=
 (List.range ops.size).all fun i =>
  match ops[i]? with
  | none => false
  | some o =>
   (o.after.toList.all fun e => !Region.binds .any e || decide (e.on < i)) &&
   ((List.range ops.size).all fun k => k == i || (match (ops[k]?).bind (·.dst) with
     | some d => o.dst != some d && (!(looks ops o).contains d || befS ops k i || befS ops i k)
     | none => true)) &&
   (decide (clsS P ops i < 2) || clsS P ops i == 3 || (List.range i).all fun k => decide (clsS P ops k < 2) || befS ops k i) &&
   (clsS P ops i != 3 || (List.range ops.size).all fun j => !befS ops i j || (List.range i).all fun k => decide (clsS P ops k < 2) || befS ops k j)
def looseB (P : Program) (ops : Array Oper) (k : Nat) : Bool := (List.range ops.size).any fun i => clsS P ops i == 1 && !befS ops k i && !befS ops i k
def wpOpsU (P : Program) (C : Cfg) (N base : Nat) (ops : Array Oper) : Nat → List Oper → Sl → Heap → (Sl → Heap → Prop) → Prop
 | _,[],s,H,Q => Q s H
 | i,o :: l,s,H,Q => dstOk N o.dst ∧ wpStep P C base ops o s H fun v H' => (looseB P ops i = true → H' = H) ∧ wpOpsU P C N base ops (i + 1) l (putF s o.dst v) H' Q
theorem runU {ops : Array Oper} : ∀ {os : List Oper} {i : Nat} {s : Sl} {H : Heap} {Q : Sl → Heap → Prop},wpOpsU P C N base ops i os s H Q → ∀ {l : List AV},Rep N l s →
 ∃ n tr l' s' H',runT P ops (fun o s H => stepA P C n base ops o s H) os l H = some (tr,l',H') ∧ Rep N l' s' ∧ Q s' H' ∧
  ∀ k,k < os.length → looseB P ops (i + k) = true → (if k + 1 < os.length then (tr.getD (k + 1) default).h else H') = (tr.getD k default).h
 | [],_,s,H,_,h,l,hr => ⟨0,[],l,s,H,rfl,hr,h,fun k hk => by simp at hk⟩
 | o :: os,i,s,H,Q,h,l,hr => by
  unfold wpOpsU at h
  obtain ⟨n,v,H1,h1,h2,h3⟩ := wpStep_sound h.2 hr
  obtain ⟨m,tr,l',s',H',h4,h5,h6,h7⟩ := runU h3 (hr.put h.1 v)
  have e1 : stepA P C (n + m) base ops o (cutS (looks ops o) l) H = some (v,H1) := by rw [step_cut]; exact stepA_mono (Nat.le_add_right n m) h1
  have e2 := runT_mono (P := P) (g := fun o s H => stepA P C (n + m) base ops o s H) (fun o s H r h => stepA_mono (Nat.le_add_left m n) h) h4
  refine ⟨n + m,⟨cutS (looks ops o) l,H,v,match wantedA ops (cutS (looks ops o) l) o with | some true => kindA P o.op | _ => 0⟩ :: tr,l',s',H',?_,h5,h6,fun k hk hl => ?_⟩
  ·simp only [runT]
   rw [e1]
   simp only
   rw [e2]
   rfl
  ·cases k with
   | zero =>
    have h8 := h2 (by simpa using hl)
    subst h8
    cases os with
    | nil => simp only [runT,Option.some.injEq,Prod.mk.injEq] at h4; obtain ⟨rfl,rfl,rfl⟩ := h4; simp
    | cons o2 os =>
     have h9 := (runT_spec _ _ _ _ _ _ h4)
     obtain ⟨h10,S,Hp,h11,h12,_,_,h13⟩ := h9
     have h14 := (h13 0 o2 rfl).2.1
     simp only [List.length_cons,Nat.zero_add]
     rw [if_pos (by omega)]
     simp only [List.getD_cons_succ,List.getD_cons_zero]
     rw [h14,h12]
   | succ k =>
    have := h7 k (by simpa using hk) (by rw [show i + 1 + k = i + (k + 1) by omega]; exact hl)
    simp only [List.length_cons,Nat.add_lt_add_iff_right,List.getD_cons_succ]
    exact this
theorem draw_rule {ops : Array Oper} {s : Sl} {H : Heap} {Q : Sl → Heap → Prop} (hst : statB P ops = true) (h : wpOpsU P C N base ops 0 ops.toList s H Q) : DrawW P C N base ops s H Q := by
 intro l hr
 obtain ⟨n,tr,l',s',H',h1,h2,h3,h4⟩ := runU h hr
 refine ⟨n,tr,l',s',H',h1,?_,h2,h3⟩
 obtain ⟨hlen,S,Hp,hS0,hH0,hSn,hHn,hat⟩ := runT_spec _ _ _ _ _ _ h1
 have hsz : ops.toList.length = ops.size := by simp
 have hn : tr.length = ops.size := by rw [hlen,hsz]
 have hget : ∀ i o,ops[i]? = some o → ops.toList[i]? = some o := fun i o h => by rw [Array.getElem?_toList]; exact h
 have hop : ∀ i,i < ops.size → ∃ o,ops[i]? = some o := fun i hi => ⟨_,Array.getElem?_eq_getElem hi⟩
 have hcls : ∀ i,i < ops.size → (tr.getD i default).c = 0 ∨ (tr.getD i default).c = clsS P ops i := by
  intro i hi
  obtain ⟨o,ho⟩ := hop i hi
  rw [(hat i o (hget i o ho)).2.2.2.2,cls_cut]
  unfold clsA clsS
  rw [ho]
  split
  ·exact .inr rfl
  ·exact .inl rfl
 have hquiet : ∀ i,i < ops.size → ¬ 2 ≤ (tr.getD i default).c → Hp (i + 1) = Hp i := by
  intro i hi hc
  obtain ⟨o,ho⟩ := hop i hi
  obtain ⟨_,_,h5,_,h6⟩ := hat i o (hget i o ho)
  exact step_kind1 h5 (by rw [← h6]; omega)
 have hheap : ∀ p,p ≤ ops.size → (if p < tr.length then (tr.getD p default).h else H') = Hp p := by
  intro p hp
  split
  ·rename_i hlt
   obtain ⟨o,ho⟩ := hop p (by omega)
   exact (hat p o (hget p o ho)).2.1
  ·rename_i hge
   have : p = ops.toList.length := by omega
   rw [this]; exact hHn.symm
 have hloose : ∀ k,k < ops.size → looseB P ops k = true → Hp (k + 1) = Hp k := by
  intro k hk hl
  have := h4 k (by omega) (by rw [Nat.zero_add]; exact hl)
  rw [← hheap (k + 1) (by omega),← hheap k (by omega),if_pos (show k < tr.length by omega)]
  rw [← this,hlen]
 unfold statB at hst
 rw [List.all_eq_true] at hst
 have hlt : ∀ a b,Waits ops a b → a < b := by
  intro a b hw
  induction hw with
  | @one i o e ho he hb =>
   have h5 := hst i (List.mem_range.2 (Array.getElem?_eq_some_iff.1 ho).1)
   rw [ho] at h5
   simp only [Bool.and_eq_true,List.all_eq_true] at h5
   have := h5.1.1.1 e (by simpa using he)
   rw [hb] at this
   simpa using this
  | @more k i o e ho he hb _ ih =>
   have h5 := hst i (List.mem_range.2 (Array.getElem?_eq_some_iff.1 ho).1)
   rw [ho] at h5
   simp only [Bool.and_eq_true,List.all_eq_true] at h5
   have := h5.1.1.1 e (by simpa using he)
   rw [hb] at this
   have : e.on < i := by simpa using this
   omega
 unfold drawOkT drawOk
 simp only
 rw [List.all_eq_true]
 intro i hi
 have hi : i < ops.size := by rw [← hn]; exact List.mem_range.1 hi
 obtain ⟨o,ho⟩ := hop i hi
 have h5 := hst i (List.mem_range.2 hi)
 rw [ho] at h5 ⊢
 simp only [Bool.and_eq_true] at h5 ⊢
 obtain ⟨⟨⟨h6,h7⟩,h8⟩,h9⟩ := h5
 have hin : ∀ k,k ∈ (List.range tr.length).filter (fun i => decide (2 ≤ (tr.getD i default).c)) → k < ops.size ∧ ¬ clsS P ops k < 2 := by
  intro k hk
  rw [List.mem_filter,List.mem_range,decide_eq_true_eq] at hk
  refine ⟨by omega,fun h => ?_⟩
  rcases hcls k (by omega) with h' | h' <;> omega
 refine ⟨⟨⟨⟨h6,?_⟩,?_⟩,?_⟩,?_⟩
 ·rw [hn]
  rw [List.all_eq_true] at h7 ⊢
  intro k hk
  have h10 := h7 k hk
  rw [Bool.or_eq_true] at h10 ⊢
  rcases h10 with h10 | h10
  ·exact .inl h10
  ·right
   simp only [Option.bind_some] at h10 ⊢
   exact h10
 ·rcases hcls i hi with h' | h'
  ·simp only [h']; rfl
  ·simp only [h']
   rw [Bool.or_eq_true] at h8 ⊢
   rcases h8 with h8 | h8
   ·exact .inl h8
   ·right
    rw [List.all_eq_true] at h8 ⊢
    intro k hk
    rw [Bool.or_eq_true,decide_eq_true_eq]
    by_cases hik : i ≤ k
    ·exact .inl hik
    ·right
     have h11 := h8 k (List.mem_range.2 (by omega))
     rw [Bool.or_eq_true,decide_eq_true_eq] at h11
     rcases h11 with h11 | h11
     ·exact absurd h11 (hin k hk).2
     ·exact h11
 ·rcases hcls i hi with h' | h'
  ·simp only [h']; rfl
  ·simp only [h',hn]
   rw [Bool.or_eq_true] at h9 ⊢
   rcases h9 with h9 | h9
   ·exact .inl h9
   ·right
    rw [List.all_eq_true] at h9 ⊢
    intro j hj
    have h10 := h9 j hj
    rw [Bool.or_eq_true] at h10 ⊢
    rcases h10 with h10 | h10
    ·exact .inl h10
    ·right
     rw [List.all_eq_true] at h10 ⊢
     intro k hk
     rw [Bool.or_eq_true,decide_eq_true_eq]
     by_cases hik : i ≤ k
     ·exact .inl hik
     ·right
      have h11 := h10 k (List.mem_range.2 (by omega))
      rw [Bool.or_eq_true,decide_eq_true_eq] at h11
      rcases h11 with h11 | h11
      ·exact absurd h11 (hin k (by rw [hn]; exact hk)).2
      ·exact h11
 ·rw [Bool.or_eq_true]
  by_cases hc1 : (tr.getD i default).c = 1
  ·right
   have hs1 : clsS P ops i = 1 := by rcases hcls i hi with h' | h' <;> omega
   rw [List.all_eq_true]
   intro p hp
   rw [Bool.or_eq_true]
   by_cases hcons : ((List.range tr.length).filter fun i => decide (2 ≤ (tr.getD i default).c)).all (fun k => (!befS ops k i || decide (k < p)) && (!befS ops i k || decide (p ≤ k))) = true
   ·right
    rw [List.all_eq_true] at hcons
    have hp' : p ≤ ops.size := by
     rcases List.mem_append.1 hp with h | h
     ·exact Nat.le_of_lt (hin p h).1
     ·simp at h; omega
    obtain ⟨h10,h11,h12,_,_⟩ := hat i o (hget i o ho)
    have hsame : ∀ k,k < ops.size → (i < k ∧ k < p ∨ p ≤ k ∧ k < i) → Hp (k + 1) = Hp k := by
     intro k hk hbt
     by_cases hc2 : 2 ≤ (tr.getD k default).c
     ·have hkm : k ∈ (List.range tr.length).filter fun i => decide (2 ≤ (tr.getD i default).c) := by
       rw [List.mem_filter,List.mem_range,decide_eq_true_eq]; exact ⟨by omega,hc2⟩
      have h13 := hcons k hkm
      simp only [Bool.and_eq_true,Bool.or_eq_true,Bool.not_eq_true',decide_eq_true_eq] at h13
      have hki : befS ops k i = false ∧ befS ops i k = false := by
       have hord : ∀ a b,befS ops a b = true → a < b := by
        intro a b hab
        exact hlt _ _ (befGo_spec _ [] rfl (fun j k h => by simp at h) _ _ hab)
       rcases hbt with hbt | hbt
       ·refine ⟨?_,?_⟩
        ·cases hb : befS ops k i with
         | false => rfl
         | true => have := hord _ _ hb; omega
        ·rcases h13.2 with h | h
         ·exact h
         ·omega
       ·refine ⟨?_,?_⟩
        ·rcases h13.1 with h | h
         ·exact h
         ·omega
        ·cases hb : befS ops i k with
         | false => rfl
         | true => have := hord _ _ hb; omega
      refine hloose k hk ?_
      unfold looseB
      rw [List.any_eq_true]
      exact ⟨i,List.mem_range.2 hi,by simp [hs1,hki.1,hki.2]⟩
     ·exact hquiet k hk hc2
    have hi1 : Hp (i + 1) = Hp i := hquiet i hi (by omega)
    have hup : ∀ d,i + 1 + d ≤ p → Hp (i + 1 + d) = Hp i := by
     intro d
     induction d with
     | zero => intro _; exact hi1
     | succ d ih => intro hd; rw [← ih (by omega)]; exact hsame (i + 1 + d) (by omega) (.inl ⟨by omega,by omega⟩)
    have hdown : ∀ d,p + d ≤ i → Hp (p + d) = Hp p := by
     intro d
     induction d with
     | zero => intro _; rfl
     | succ d ih => intro hd; rw [← ih (by omega)]; exact hsame (p + d) (by omega) (.inr ⟨by omega,by omega⟩)
    have hpp : Hp p = Hp i := by
     rcases Nat.lt_trichotomy i p with h | h | h
     ·have := hup (p - (i + 1)) (by omega); rwa [show i + 1 + (p - (i + 1)) = p by omega] at this
     ·rw [h]
     ·have := hdown (i - p) (by omega); rw [show p + (i - p) = i by omega] at this; exact this.symm
    rw [hheap p hp',hpp,h10]
    rw [show stepA P C n base ops o (cutS (looks ops o) (S i)) (Hp i) = _ from h12]
    exact beq_refl _
   ·left
    simp only [Bool.not_eq_true] at hcons
    simp only [befS] at hcons
    rw [Bool.not_eq_true']
    exact hcons
  ·left
   rw [bne_iff_ne]; exact hc1
end Go.Proofs.Ev
namespace Go.Proofs.Ev
section
variable (P : Program) (C : Cfg) (N base : Nat)
def RangeW (g : Operand) (ps : Array Tmp) (assign body : Code) (s : Sl) (H : Heap) (Q : Post) : Prop :=
 ∀ l,Rep N l s → ∃ n e l' s' H',codeA P C n base (.rangeFunc g ps assign body) l H = some (e,l',H') ∧ Rep N l' s' ∧ Q e s' H'
def wpC : Code → Sl → Heap → Post → Prop
 | .skip,s,H,Q => Q .normal s H
 | .label _,s,H,Q => Q .normal s H
 | .ret,s,H,Q => Q .ret s H
 | .exit id,s,H,Q => Q (.exit id) s H
 | .seq a b,s,H,Q => wpC a s H (seqQ (wpC b) Q)
 | .cond x a b,s,H,Q => condW (valF s x) (wpC a s H Q) (wpC b s H Q)
 | .block id b,s,H,Q => wpC b s H (blockQ id Q)
 | .loop b,s,H,Q => LoopW (wpC b) s H Q
 | .region _ ops false,s,H,Q => wpOps P C N base ops ops.toList s H (Q .normal)
 | .region _ ops true,s,H,Q => wpOpsU P C N base ops 0 ops.toList s H (Q .normal)
 | .rangeFunc g ps assign body,s,H,Q => RangeW P C N base g ps assign body s H Q
 | _,_,_,_ => False
end
def statC (P : Program) : Code → Bool
 | .seq a b => statC P a && statC P b
 | .cond _ a b => statC P a && statC P b
 | .block _ b => statC P b
 | .loop b => statC P b
 | .region _ ops true => statB P ops
 | _ => true
variable {P : Program} {C : Cfg} {N base : Nat}
theorem wpOpsU_mono {ops : Array Oper} {Q Q' : Sl → Heap → Prop} (hq : ∀ s H,Q s H → Q' s H) : ∀ {os : List Oper} {i : Nat} {s : Sl} {H : Heap},wpOpsU P C N base ops i os s H Q → wpOpsU P C N base ops i os s H Q'
 | [],_,s,H,h => hq s H h
 | _ :: _,_,_,_,h => ⟨h.1,wpStep_mono h.2 fun _ _ h => ⟨h.1,wpOpsU_mono hq h.2⟩⟩
theorem loopN_sound {b : Code} (ih : ∀ {s : Sl} {H : Heap} {Q : Post},wpC P C N base b s H Q → ∀ {l : List AV},Rep N l s → ∃ n e l' s' H',codeA P C n base b l H = some (e,l',H') ∧ Rep N l' s' ∧ Q e s' H') {Q : Post} :
 ∀ {k : Nat} {s : Sl} {H : Heap},loopN (wpC P C N base b) Q k s H → ∀ {l : List AV},Rep N l s → ∃ n e l' s' H',codeA P C n base (.loop b) l H = some (e,l',H') ∧ Rep N l' s' ∧ Q e s' H'
 | 0,_,_,h,_,_ => h.elim
 | k + 1,s,H,h,l,hr => by
  unfold loopN at h
  obtain ⟨n,e,l',s',H',h1,h2,h3⟩ := ih h hr
  cases e with
  | normal =>
   obtain ⟨m,e,l2,s2,H2,h4,h5,h6⟩ := loopN_sound ih h3 h2
   refine ⟨n + m + 1,e,l2,s2,H2,?_,h5,h6⟩
   rw [codeA_loop,codeA_mono (Nat.le_add_right n m) h1]
   exact codeA_mono (Nat.le_add_left m n) h4
  | exit i => exact ⟨n + 1,.exit i,l',s',H',by rw [codeA_loop,h1],h2,h3⟩
  | ret => exact ⟨n + 1,.ret,l',s',H',by rw [codeA_loop,h1],h2,h3⟩
theorem wpC_sound : ∀ {c : Code} {s : Sl} {H : Heap} {Q : Post},statC P c = true → wpC P C N base c s H Q → ∀ {l : List AV},Rep N l s → ∃ n e l' s' H',codeA P C n base c l H = some (e,l',H') ∧ Rep N l' s' ∧ Q e s' H'
 | .skip,s,H,_,hst,h,l,hr => ⟨1,.normal,l,s,H,by simp only [codeA],hr,h⟩
 | .label _,s,H,_,hst,h,l,hr => ⟨1,.normal,l,s,H,by simp only [codeA],hr,h⟩
 | .ret,s,H,_,hst,h,l,hr => ⟨1,.ret,l,s,H,by simp only [codeA],hr,h⟩
 | .exit i,s,H,_,hst,h,l,hr => ⟨1,.exit i,l,s,H,by simp only [codeA],hr,h⟩
 | .seq a b,s,H,Q,hst,h,l,hr => by
  unfold wpC at h
  simp only [statC,Bool.and_eq_true] at hst
  obtain ⟨n,e,l',s',H',h1,h2,h3⟩ := wpC_sound hst.1 h hr
  cases e with
  | normal =>
   obtain ⟨m,e,l2,s2,H2,h4,h5,h6⟩ := wpC_sound hst.2 h3 h2
   refine ⟨n + m + 1,e,l2,s2,H2,?_,h5,h6⟩
   simp only [codeA]
   rw [codeA_mono (Nat.le_add_right n m) h1]
   exact codeA_mono (Nat.le_add_left m n) h4
  | exit i => exact ⟨n + 1,.exit i,l',s',H',by simp only [codeA]; rw [h1],h2,h3⟩
  | ret => exact ⟨n + 1,.ret,l',s',H',by simp only [codeA]; rw [h1],h2,h3⟩
 | .cond x a b,s,H,Q,hst,h,l,hr => by
  unfold wpC condW at h
  simp only [statC,Bool.and_eq_true] at hst
  split at h
  ·rename_i hx
   obtain ⟨n,e,l',s',H',h1,h2,h3⟩ := wpC_sound hst.1 h hr
   exact ⟨n + 1,e,l',s',H',by simp only [codeA]; rw [hr.val,hx]; exact h1,h2,h3⟩
  ·rename_i hx
   obtain ⟨n,e,l',s',H',h1,h2,h3⟩ := wpC_sound hst.2 h hr
   exact ⟨n + 1,e,l',s',H',by simp only [codeA]; rw [hr.val,hx]; exact h1,h2,h3⟩
  ·exact h.elim
 | .block id b,s,H,Q,hst,h,l,hr => by
  unfold wpC at h
  obtain ⟨n,e,l',s',H',h1,h2,h3⟩ := wpC_sound (c := b) hst h hr
  cases e with
  | normal => exact ⟨n + 1,.normal,l',s',H',by simp only [codeA]; rw [h1],h2,h3⟩
  | ret => exact ⟨n + 1,.ret,l',s',H',by simp only [codeA]; rw [h1],h2,h3⟩
  | exit i =>
   simp only [blockQ] at h3
   by_cases hi : i = id
   ·rw [if_pos hi] at h3
    exact ⟨n + 1,.normal,l',s',H',by simp only [codeA]; rw [h1]; simp [hi],h2,h3⟩
   ·rw [if_neg hi] at h3
    exact ⟨n + 1,.exit i,l',s',H',by simp only [codeA]; rw [h1]; simp [hi],h2,h3⟩
 | .loop b,s,H,Q,hst,h,l,hr => by
  unfold wpC at h
  obtain ⟨k,h⟩ := h
  exact loopN_sound (fun {s H Q} h {l} hr => wpC_sound (c := b) hst h hr) h hr
 | .region id ops false,s,H,Q,hst,h,l,hr => by
  unfold wpC at h
  obtain ⟨n,l',s',H',h1,h2,h3⟩ := wpOps_sound h hr
  exact ⟨n + 1,.normal,l',s',H',by simp only [codeA]; rw [h1],h2,h3⟩
 | .region id ops true,s,H,Q,hst,h,l,hr => by
  unfold wpC at h
  obtain ⟨n,tr,l',s',H',h1,h2,h3,h4⟩ := draw_rule hst h l hr
  exact ⟨n + 1,.normal,l',s',H',by simp only [codeA]; rw [h1]; simp only; rw [if_pos h2],h3,h4⟩
 | .rangeFunc g ps assign body,s,H,Q,_,h,l,hr => by unfold wpC at h; exact h l hr
 | .scope _,_,_,_,_,h,_,_ => h.elim
 | .goto _,_,_,_,_,h,_,_ => h.elim
 | .refuse _,_,_,_,_,h,_,_ => h.elim
theorem wpC_mono : ∀ {c : Code} {s : Sl} {H : Heap} {Q Q' : Post},(∀ e s H,Q e s H → Q' e s H) → wpC P C N base c s H Q → wpC P C N base c s H Q'
 | .skip,s,H,_,_,hq,h => hq _ s H h
 | .label _,s,H,_,_,hq,h => hq _ s H h
 | .ret,s,H,_,_,hq,h => hq _ s H h
 | .exit i,s,H,_,_,hq,h => hq _ s H h
 | .seq a b,s,H,Q,Q',hq,h => by
  unfold wpC at h ⊢
  refine wpC_mono (fun e s H h => ?_) h
  cases e with
  | normal => exact wpC_mono (c := b) hq h
  | exit i => exact hq _ _ _ h
  | ret => exact hq _ _ _ h
 | .cond x a b,s,H,Q,Q',hq,h => by
  unfold wpC condW at h ⊢
  split at h
  ·exact wpC_mono hq h
  ·exact wpC_mono hq h
  ·exact h.elim
 | .block id b,s,H,Q,Q',hq,h => by
  unfold wpC at h ⊢
  refine wpC_mono (fun e s H h => ?_) h
  cases e with
  | normal => exact hq _ _ _ h
  | exit i =>
   simp only [blockQ] at h ⊢
   by_cases hi : i = id
   ·rw [if_pos hi] at h ⊢; exact hq _ _ _ h
   ·rw [if_neg hi] at h ⊢; exact hq _ _ _ h
  | ret => exact hq _ _ _ h
 | .loop b,s,H,Q,Q',hq,h => by
  unfold wpC at h ⊢
  obtain ⟨k,h⟩ := h
  refine ⟨k,?_⟩
  induction k generalizing s H with
  | zero => exact h
  | succ k ih =>
   unfold loopN at h ⊢
   refine wpC_mono (c := b) (fun e s H h => ?_) h
   cases e with
   | normal => exact ih _ _ h
   | exit i => exact hq _ _ _ h
   | ret => exact hq _ _ _ h
 | .region id ops false,s,H,Q,Q',hq,h => by unfold wpC at h ⊢; exact wpOps_mono (hq _) h
 | .region id ops true,s,H,Q,Q',hq,h => by
  unfold wpC at h ⊢
  exact wpOpsU_mono (hq _) h
 | .rangeFunc g ps assign body,s,H,Q,Q',hq,h => by
  unfold wpC at h ⊢
  intro l hr
  obtain ⟨n,e,l',s',H',h1,h2,h3⟩ := h l hr
  exact ⟨n,e,l',s',H',h1,h2,hq _ _ _ h3⟩
 | .scope _,_,_,_,_,_,h => h.elim
 | .goto _,_,_,_,_,_,h => h.elim
 | .refuse _,_,_,_,_,_,h => h.elim
theorem loop_rule {b : Code} {Q : Post} (I : Sl → Heap → Prop) (m : Sl → Heap → Nat) {s : Sl} {H : Heap} (h0 : I s H)
 (hstep : ∀ s H,I s H → wpC P C N base b s H fun e s' H' => match e with | .normal => I s' H' ∧ m s' H' < m s H | .exit i => Q (.exit i) s' H' | .ret => Q .ret s' H') :
 LoopW (wpC P C N base b) s H Q := by
 have key : ∀ (k : Nat) (s : Sl) (H : Heap),I s H → m s H < k → loopN (wpC P C N base b) Q k s H := by
  intro k
  induction k with
  | zero => intro s H _ h; omega
  | succ k ih =>
   intro s H hi hm
   unfold loopN
   refine wpC_mono (fun e s' H' h => ?_) (hstep s H hi)
   cases e with
   | normal => exact ih s' H' h.1 (by have := h.2; omega)
   | exit i => exact h
   | ret => exact h
 exact ⟨m s H + 1,key _ _ _ h0 (by omega)⟩
def argS (args : List AV) (N : Nat) : Sl := fun t => if t < args.length then args.getD t .undef else if t < N then .tup [] else .undef
theorem argS_rep {args : List AV} {N : Nat} (h : args.length ≤ N) : Rep N (args ++ List.replicate (N - args.length) (.tup [])) (argS args N) := by
 refine ⟨by simp; omega,fun t => ?_⟩
 unfold argS
 rw [List.getD_eq_getElem?_getD]
 by_cases h1 : t < args.length
 ·rw [if_pos h1,List.getElem?_append_left h1,List.getD_eq_getElem?_getD]
 ·rw [if_neg h1,List.getElem?_append_right (by omega)]
  by_cases h2 : t < N
  ·rw [if_pos h2,List.getElem?_replicate,if_pos (by omega)]; rfl
  ·rw [if_neg h2,List.getElem?_replicate,if_neg (by omega)]; rfl
def resultsF (P : Program) (H : Heap) (s : Sl) : List ResultVar → Option (List AV)
 | [] => some []
 | .tmp t :: l => (resultsF P H s l).map (s t :: ·)
 | .cell a t :: l =>
  match loadA P H t (s a),resultsF P H s l with
  | some v,some vs => some (v :: vs)
  | _,_ => none
theorem Rep.results {l : List AV} {s : Sl} (h : Rep N l s) {H : Heap} : ∀ rs : List ResultVar,resultsA P H l rs = resultsF P H s rs
 | [] => rfl
 | .tmp t :: rs => by unfold resultsA resultsF; rw [h.results rs,h.2 t]
 | .cell a t :: rs => by unfold resultsA resultsF; rw [h.results rs,h.2 a]; rfl
def retQ (P : Program) (rs : List ResultVar) (K : AV → Heap → Prop) : Post := fun e s H =>
 match e with
 | .exit _ => False
 | _ => match resultsF P H s rs with | some vs => K (packA vs) H | none => False
theorem func_rule {f : FuncId} {fn : Func} {c : Code} {args : List AV} {H : Heap} {K : AV → Heap → Prop} (hf : P.funcs[f]? = some fn) (hc : fn.body = some c) (hp : C.prim f = none) (hn : args.length ≤ fn.ntmps) (hst : statC P c = true)
 (h : wpC P C fn.ntmps base c (argS args fn.ntmps) H (retQ P fn.results.toList K)) : FuncW P C base f args H K := by
 obtain ⟨n,e,l',s',H',h1,h2,h3⟩ := wpC_sound hst h (argS_rep hn)
 unfold retQ at h3
 have key : ∀ vs,resultsF P H' s' fn.results.toList = some vs → (e = .normal ∨ e = .ret) → funcA P C (n + 1) base f args H = some (packA vs,H') := by
  intro vs hv he
  unfold funcA
  simp only [hp,hf,hc,h1]
  rcases he with rfl | rfl <;> simp [h2.results,hv]
 cases e with
 | exit i => exact h3.elim
 | normal =>
  simp only at h3
  split at h3
  ·rename_i vs hv; exact ⟨n + 1,_,H',key vs hv (.inl rfl),h3⟩
  ·exact h3.elim
 | ret =>
  simp only at h3
  split at h3
  ·rename_i vs hv; exact ⟨n + 1,_,H',key vs hv (.inr rfl),h3⟩
  ·exact h3.elim
theorem call_rule {f : FuncId} {caps args : List AV} {H : Heap} {K : AV → Heap → Prop} (hp : C.pure f = false) (hz : C.frz f = false) (h : FuncW P C base f (args ++ caps) H K) : CallW P C base (.fn f caps) args H K := by
 obtain ⟨n,v,H',h1,h2⟩ := h
 exact ⟨n + 1,v,H',by simp only [callA,hp,hz]; exact h1,h2⟩
theorem pure_rule {f : FuncId} {caps args : List AV} {H : Heap} {K : AV → Heap → Prop} (hp : C.pure f = true)
 (h : FuncW P C H.length f (args ++ caps) H fun r H' => ∃ r',freezeA H' H.length 3 r = some r' ∧ K r' H) : CallW P C base (.fn f caps) args H K := by
 obtain ⟨n,v,H',h1,r',h2,h3⟩ := h
 exact ⟨n + 1,r',H,by simp only [callA,hp]; rw [h1]; simp [h2],h3⟩
end Go.Proofs.Ev
namespace Go.Proofs.Ev
variable {P : Program} {C : Cfg} {N base : Nat}
def LoopC (P : Program) (C : Cfg) (N base : Nat) (b : Code) (s : Sl) (H : Heap) (Q : Post) : Prop := LoopW (wpC P C N base b) s H Q
@[simp ↓] theorem wp_skip (s : Sl) (H : Heap) (Q : Post) : wpC P C N base .skip s H Q = Q .normal s H := Eq.trans rfl rfl
@[simp ↓] theorem wp_ret (s : Sl) (H : Heap) (Q : Post) : wpC P C N base .ret s H Q = Q .ret s H := Eq.trans rfl rfl
@[simp ↓] theorem wp_exit (i : Nat) (s : Sl) (H : Heap) (Q : Post) : wpC P C N base (.exit i) s H Q = Q (.exit i) s H := Eq.trans rfl rfl
@[simp ↓] theorem wp_seq (a b : Code) (s : Sl) (H : Heap) (Q : Post) : wpC P C N base (.seq a b) s H Q = wpC P C N base a s H (seqQ (wpC P C N base b) Q) := Eq.trans rfl rfl
@[simp ↓] theorem wp_cond (x : Operand) (a b : Code) (s : Sl) (H : Heap) (Q : Post) : wpC P C N base (.cond x a b) s H Q = condW (valF s x) (wpC P C N base a s H Q) (wpC P C N base b s H Q) := Eq.trans rfl rfl
@[simp ↓] theorem wp_block (i : Nat) (b : Code) (s : Sl) (H : Heap) (Q : Post) : wpC P C N base (.block i b) s H Q = wpC P C N base b s H (blockQ i Q) := Eq.trans rfl rfl
@[simp ↓] theorem wp_loop (b : Code) (s : Sl) (H : Heap) (Q : Post) : wpC P C N base (.loop b) s H Q = LoopC P C N base b s H Q := Eq.trans rfl rfl
@[simp ↓] theorem wp_region (id : Nat) (ops : Array Oper) (s : Sl) (H : Heap) (Q : Post) : wpC P C N base (.region id ops false) s H Q = wpOps P C N base ops ops.toList s H (Q .normal) := Eq.trans rfl rfl
@[simp ↓] theorem wp_draw (id : Nat) (ops : Array Oper) (s : Sl) (H : Heap) (Q : Post) : wpC P C N base (.region id ops true) s H Q = wpOpsU P C N base ops 0 ops.toList s H (Q .normal) := Eq.trans rfl rfl
@[simp ↓] theorem seqQ_normal (W : Sl → Heap → Post → Prop) (Q : Post) (s : Sl) (H : Heap) : seqQ W Q .normal s H = W s H Q := Eq.trans rfl rfl
@[simp ↓] theorem seqQ_exit (W : Sl → Heap → Post → Prop) (Q : Post) (i : Nat) (s : Sl) (H : Heap) : seqQ W Q (.exit i) s H = Q (.exit i) s H := Eq.trans rfl rfl
@[simp ↓] theorem seqQ_ret (W : Sl → Heap → Post → Prop) (Q : Post) (s : Sl) (H : Heap) : seqQ W Q .ret s H = Q .ret s H := Eq.trans rfl rfl
@[simp ↓] theorem blockQ_normal (id : Nat) (Q : Post) (s : Sl) (H : Heap) : blockQ id Q .normal s H = Q .normal s H := Eq.trans rfl rfl
@[simp ↓] theorem blockQ_ret (id : Nat) (Q : Post) (s : Sl) (H : Heap) : blockQ id Q .ret s H = Q .ret s H := Eq.trans rfl rfl
@[simp ↓] theorem blockQ_exit (id i : Nat) (Q : Post) (s : Sl) (H : Heap) : blockQ id Q (.exit i) s H = if i = id then Q .normal s H else Q (.exit i) s H := Eq.trans rfl rfl
@[simp ↓] theorem retQ_normal (rs : List ResultVar) (K : AV → Heap → Prop) (s : Sl) (H : Heap) : retQ P rs K .normal s H = match resultsF P H s rs with | some vs => K (packA vs) H | none => False := Eq.trans rfl rfl
@[simp ↓] theorem retQ_ret (rs : List ResultVar) (K : AV → Heap → Prop) (s : Sl) (H : Heap) : retQ P rs K .ret s H = match resultsF P H s rs with | some vs => K (packA vs) H | none => False := Eq.trans rfl rfl
@[simp] theorem resultsF_nil (H : Heap) (s : Sl) : resultsF P H s [] = some [] := rfl
@[simp] theorem resultsF_tmp (H : Heap) (s : Sl) (t : Nat) (l : List ResultVar) : resultsF P H s (.tmp t :: l) = (resultsF P H s l).map (s t :: ·) := rfl
@[simp] theorem resultsF_cell (H : Heap) (s : Sl) (a t : Nat) (l : List ResultVar) : resultsF P H s (.cell a t :: l) = match loadA P H t (s a),resultsF P H s l with | some v,some vs => some (v :: vs) | _,_ => none := rfl
@[simp] theorem packA_one (v : AV) : packA [v] = v := rfl
@[simp] theorem packA_two (v w : AV) (l : List AV) : packA (v :: w :: l) = .tup (v :: w :: l) := rfl
@[simp] theorem packA_none : packA [] = .tup [] := rfl
@[simp] theorem condW_true (A B : Prop) : condW (.bool true) A B = A := rfl
@[simp] theorem condW_false (A B : Prop) : condW (.bool false) A B = B := rfl
@[simp low] theorem condW_bool (b : Bool) (A B : Prop) : condW (.bool b) A B = ((b = true → A) ∧ (b = false → B)) := by cases b <;> simp
@[simp] theorem condW_dec (p : Prop) [Decidable p] (A B : Prop) : condW (.bool (decide p)) A B = ((p → A) ∧ (¬ p → B)) := by rw [condW_bool]; simp
@[simp] theorem condW_not (b : Bool) (A B : Prop) : condW (.bool (!b)) A B = condW (.bool b) B A := by cases b <;> rfl
@[simp] theorem condW_beq {α : Type} [BEq α] [LawfulBEq α] (x y : α) (A B : Prop) : condW (.bool (x == y)) A B = ((x = y → A) ∧ (¬ x = y → B)) := by rw [condW_bool]; simp
def kOps (P : Program) (C : Cfg) (N base : Nat) (ops : Array Oper) (l : List Oper) (d : Option Tmp) (s : Sl) (Q : Sl → Heap → Prop) : AV → Heap → Prop := fun v H' => wpOps P C N base ops l (putF s d v) H' Q
@[simp ↓] theorem kOps_app (ops : Array Oper) (l : List Oper) (d : Option Tmp) (s : Sl) (Q : Sl → Heap → Prop) (v : AV) (H' : Heap) : kOps P C N base ops l d s Q v H' = wpOps P C N base ops l (putF s d v) H' Q := Eq.trans rfl rfl
def kOpsU (P : Program) (C : Cfg) (N base : Nat) (ops : Array Oper) (i : Nat) (l : List Oper) (d : Option Tmp) (s : Sl) (H : Heap) (Q : Sl → Heap → Prop) : AV → Heap → Prop := fun v H' => (looseB P ops i = true → H' = H) ∧ wpOpsU P C N base ops (i + 1) l (putF s d v) H' Q
@[simp ↓] theorem kOpsU_app (ops : Array Oper) (i : Nat) (l : List Oper) (d : Option Tmp) (s : Sl) (H : Heap) (Q : Sl → Heap → Prop) (v : AV) : kOpsU P C N base ops i l d s H Q v H = wpOpsU P C N base ops (i + 1) l (putF s d v) H Q := by simp [kOpsU]
theorem kOpsU_turn (ops : Array Oper) (i : Nat) (l : List Oper) (d : Option Tmp) (s : Sl) (H : Heap) (Q : Sl → Heap → Prop) (v : AV) (H' : Heap) (h : looseB P ops i = false) : kOpsU P C N base ops i l d s H Q v H' = wpOpsU P C N base ops (i + 1) l (putF s d v) H' Q := by simp [kOpsU,h]
@[simp ↓] theorem wpOps_nil (ops : Array Oper) (s : Sl) (H : Heap) (Q : Sl → Heap → Prop) : wpOps P C N base ops [] s H Q = Q s H := Eq.trans rfl rfl
@[simp ↓] theorem wpOps_cons (ops : Array Oper) (d : Option Tmp) (op : Op) (t : TypeId) (pos : String) (af : Array Edge) (l : List Oper) (s : Sl) (H : Heap) (Q : Sl → Heap → Prop) :
 wpOps P C N base ops (⟨d,op,t,pos,af,none⟩ :: l) s H Q = (dstOk N d ∧ wpOp P C base ⟨d,op,t,pos,af,none⟩ s H (kOps P C N base ops l d s Q)) := Eq.trans rfl rfl
def wantedV (v : AV) (w : Bool) : Option Bool := match v with | .bool b => some (b == w) | .undef => none | _ => some false
def gstep (w : Option Bool) (W : (AV → Heap → Prop) → Prop) (H : Heap) (K : AV → Heap → Prop) : Prop := wantW w (K (.tup []) H) (W K)
def guardV (ops : Array Oper) (s : Sl) (g : Nat × Bool) : Option Bool := match (ops[g.1]?).bind (·.dst) with | some d => wantedV (s d) g.2 | none => some false
@[simp ↓] theorem wpOps_guard (ops : Array Oper) (d : Option Tmp) (op : Op) (t : TypeId) (pos : String) (af : Array Edge) (g : Nat × Bool) (l : List Oper) (s : Sl) (H : Heap) (Q : Sl → Heap → Prop) :
 wpOps P C N base ops (⟨d,op,t,pos,af,some g⟩ :: l) s H Q = (dstOk N d ∧ gstep (guardV ops s g) (fun K => wpOp P C base ⟨d,op,t,pos,af,none⟩ s H K) H (kOps P C N base ops l d s Q)) := Eq.trans rfl rfl
@[simp ↓] theorem wpOpsU_nil (ops : Array Oper) (i : Nat) (s : Sl) (H : Heap) (Q : Sl → Heap → Prop) : wpOpsU P C N base ops i [] s H Q = Q s H := Eq.trans rfl rfl
@[simp ↓] theorem wpOpsU_cons (ops : Array Oper) (i : Nat) (d : Option Tmp) (op : Op) (t : TypeId) (pos : String) (af : Array Edge) (l : List Oper) (s : Sl) (H : Heap) (Q : Sl → Heap → Prop) :
 wpOpsU P C N base ops i (⟨d,op,t,pos,af,none⟩ :: l) s H Q = (dstOk N d ∧ wpOp P C base ⟨d,op,t,pos,af,none⟩ s H (kOpsU P C N base ops i l d s H Q)) := Eq.trans rfl rfl
@[simp ↓] theorem wpOpsU_guard (ops : Array Oper) (i : Nat) (d : Option Tmp) (op : Op) (t : TypeId) (pos : String) (af : Array Edge) (g : Nat × Bool) (l : List Oper) (s : Sl) (H : Heap) (Q : Sl → Heap → Prop) :
 wpOpsU P C N base ops i (⟨d,op,t,pos,af,some g⟩ :: l) s H Q = (dstOk N d ∧ gstep (guardV ops s g) (fun K => wpOp P C base ⟨d,op,t,pos,af,none⟩ s H K) H (kOpsU P C N base ops i l d s H Q)) := Eq.trans rfl rfl
@[simp] theorem dstOk_some (d : Nat) : dstOk N (some d) = (d < N) := rfl
@[simp] theorem dstOk_none : dstOk N none = True := rfl
@[simp] theorem putF_some (s : Sl) (d : Nat) (v : AV) : putF s (some d) v = upd s d v := rfl
@[simp] theorem putF_none (s : Sl) (v : AV) : putF s none v = s := rfl
@[simp] theorem upd_eq (s : Sl) (d : Nat) (v : AV) : upd s d v d = v := if_pos rfl
@[simp] theorem upd_get (s : Sl) (d t : Nat) (v : AV) : upd s d v t = if t = d then v else s t := rfl
@[simp] theorem valF_tmp (s : Sl) (t : Nat) : valF s (.tmp t) = s t := rfl
@[simp] theorem valF_const (s : Sl) (v : Value) : valF s (.const v) = ofValue v := rfl
@[simp] theorem valF_func (s : Sl) (f : FuncId) : valF s (.func f) = .fn f [] := rfl
@[simp] theorem ofValue_bool (b : Bool) : ofValue (.bool b) = .bool b := rfl
@[simp] theorem ofValue_int (k : IntKind) (n : Int) : ofValue (.int k n) = .int k n := rfl
@[simp] theorem ofValue_str (b : ByteArray) : ofValue (.string b) = .str b.data.toList := rfl
@[simp] theorem ofValue_nilp : ofValue (.pointer none) = .nilp := rfl
@[simp] theorem ofValue_nils : ofValue (.slice none 0 0) = .nils := rfl
@[simp] theorem ofValue_nilm : ofValue (.map none) = .nilm := rfl
@[simp] theorem ofValue_nilf : ofValue .nilFunc = .nilf := rfl
@[simp] theorem wantW_true (K A : Prop) : wantW (some true) K A = A := rfl
@[simp] theorem wantW_false (K A : Prop) : wantW (some false) K A = K := rfl
@[simp] theorem oget_some (v : AV) (H : Heap) (K : AV → Heap → Prop) : (match (some (v,H) : Option (AV × Heap)) with | some (v,H') => K v H' | none => False) = K v H := rfl
section ops
variable (d : Option Tmp) (ty : TypeId) (pos : String) (af : Array Edge) (g : Option (Nat × Bool)) (s : Sl) (H : Heap) (K : AV → Heap → Prop)
def getW (r : Option (AV × Heap)) (K : AV → Heap → Prop) : Prop := match r with | some (v,H') => K v H' | none => False
@[simp] theorem getW_some (v : AV) (H : Heap) (K : AV → Heap → Prop) : getW (some (v,H)) K = K v H := rfl
def getV (r : Option AV) (H : Heap) (K : AV → Heap → Prop) : Prop := match r with | some v => K v H | none => False
@[simp] theorem getV_some (v : AV) (H : Heap) (K : AV → Heap → Prop) : getV (some v) H K = K v H := rfl
def getH (r : Option Heap) (K : AV → Heap → Prop) : Prop := match r with | some H => K (.tup []) H | none => False
@[simp] theorem getH_some (H : Heap) (K : AV → Heap → Prop) : getH (some H) K = K (.tup []) H := rfl
theorem getW_retV (r : Option AV) : getW (retV H r) K = getV r H K := by cases r <;> rfl
theorem getW_retU (r : Option Heap) : getW (retU r) K = getH r K := by cases r <;> rfl
@[simp] theorem getV_ite (c : Prop) [Decidable c] (a : AV) : getV (if c then some a else none) H K = (c ∧ K a H) := by by_cases h : c <;> simp [h,getV]
@[simp] theorem getH_ite (c : Prop) [Decidable c] (a : Heap) : getH (if c then some a else none) K = (c ∧ K (.tup []) a) := by by_cases h : c <;> simp [h,getH]
@[simp] theorem getW_ite (c : Prop) [Decidable c] (a : AV × Heap) : getW (if c then some a else none) K = (c ∧ K a.1 a.2) := by by_cases h : c <;> simp [h,getW]
@[congr] theorem getV_congr {r r' : Option AV} (H : Heap) (K : AV → Heap → Prop) (h : r = r') : getV r H K = getV r' H K := by rw [h]
@[congr] theorem getW_congr {r r' : Option (AV × Heap)} (K : AV → Heap → Prop) (h : r = r') : getW r K = getW r' K := by rw [h]
@[congr] theorem getH_congr {r r' : Option Heap} (K : AV → Heap → Prop) (h : r = r') : getH r K = getH r' K := by rw [h]
theorem wpOp_op {o : Oper} (h : ∀ f args ats,o.op ≠ .call { callee := .value f,args,argTypes := ats }) : wpOp P C base o s H K = getW (opA P C base H (valF s) o) K := by
 unfold wpOp
 split
 ·rename_i f args ats e; exact absurd e (h f args ats)
 ·rfl
@[simp ↓] theorem op_move (x : Operand) : wpOp P C base ⟨d,.move x,ty,pos,af,g⟩ s H K = K (valF s x) H := Eq.trans rfl rfl
@[simp ↓] theorem op_assign (x : Operand) : wpOp P C base ⟨d,.assign x,ty,pos,af,g⟩ s H K = K (valF s x) H := Eq.trans rfl rfl
def pickV (c a b : AV) : Option AV := match c with | .bool t => some (if t then a else b) | _ => none
@[simp ↓] theorem op_pick (c a b : Operand) : wpOp P C base ⟨d,.pick c a b,ty,pos,af,g⟩ s H K = getV (pickV (valF s c) (valF s a) (valF s b)) H K := by
 rw [wpOp_op (h := by intro f args ats e; cases e)]; simp only [opA,pickV]; cases valF s c <;> rfl
@[simp ↓] theorem op_alloc (t : TypeId) : wpOp P C base ⟨d,.alloc t,ty,pos,af,g⟩ s H K = getW (match ofZero P t with | some z => if some z.cells.length = szOf P t then some (allocG H (tagG P t) z) else none | none => none) K := Eq.trans rfl rfl
@[simp ↓] theorem op_box (t : TypeId) (x : Operand) : wpOp P C base ⟨d,.box t x,ty,pos,af,g⟩ s H K = getW (if (valF s x).cells.all AV.leaf then some (allocA H (valF s x)) else none) K := Eq.trans rfl rfl
@[simp ↓] theorem op_build (t : TypeId) (ps : Array (Nat × Operand)) : wpOp P C base ⟨d,.build t ps,ty,pos,af,g⟩ s H K = getV (buildA P t (ps.toList.map fun x => (x.1,valF s x.2))) H K := by
 rw [← getW_retV]; rfl
@[simp ↓] theorem op_buildSlice (t : TypeId) (n : Nat) (ps : Array (Nat × Operand)) : wpOp P C base ⟨d,.buildSlice t n ps,ty,pos,af,g⟩ s H K = getV (buildSliceA P t n (ps.toList.map fun x => (x.1,valF s x.2))) H K := by
 rw [← getW_retV]; rfl
@[simp ↓] theorem op_load (t : TypeId) (a : Operand) : wpOp P C base ⟨d,.load t a,ty,pos,af,g⟩ s H K = getV (loadA P H t (valF s a)) H K := by rw [← getW_retV]; rfl
@[simp ↓] theorem op_store (t : TypeId) (a x : Operand) : wpOp P C base ⟨d,.store t a x,ty,pos,af,g⟩ s H K = getH (storeA P base H t (valF s a) (valF s x)) K := by rw [← getW_retU]; rfl
def nilW (v : AV) (H : Heap) (K : AV → Heap → Prop) : Prop := match v with | .ptr .. | .eptr _ | .fn .. => K v H | _ => False
@[simp] theorem nilW_ptr (b g e i f : Nat) : nilW (.ptr b g e i f) H K = K (.ptr b g e i f) H := rfl
@[simp] theorem nilW_eptr (c : List AV) : nilW (.eptr c) H K = K (.eptr c) H := rfl
@[simp] theorem nilW_fn (f : FuncId) (c : List AV) : nilW (.fn f c) H K = K (.fn f c) H := rfl
@[simp ↓] theorem op_nilCheck (x : Operand) : wpOp P C base ⟨d,.nilCheck x,ty,pos,af,g⟩ s H K = nilW (valF s x) H K := by
 rw [wpOp_op (h := by intro f args ats e; cases e)]; simp only [opA,nilW]; cases valF s x <;> rfl
@[simp ↓] theorem op_bin (op : BinOp) (t u : TypeId) (x y : Operand) : wpOp P C base ⟨d,.binOp op t x y u,ty,pos,af,g⟩ s H K = getV (binA P C op t (valF s x) (valF s y)) H K := by rw [← getW_retV]; rfl
@[simp ↓] theorem op_un (op : UnOp) (t : TypeId) (x : Operand) : wpOp P C base ⟨d,.unOp op t x,ty,pos,af,g⟩ s H K = getV (unA op (valF s x)) H K := by rw [← getW_retV]; rfl
@[simp ↓] theorem op_convert (a b : TypeId) (x : Operand) : wpOp P C base ⟨d,.convert a b x,ty,pos,af,g⟩ s H K = getW (convertA P H a b (valF s x).denil) K := Eq.trans rfl rfl
@[simp ↓] theorem op_makeFunc (f : FuncId) (caps : Array Operand) : wpOp P C base ⟨d,.makeFunc (.func f) #[] caps,ty,pos,af,g⟩ s H K = K (.fn f (caps.toList.map (valF s))) H := Eq.trans rfl rfl
@[simp ↓] theorem op_makeMap (t : TypeId) : wpOp P C base ⟨d,.makeMap t none,ty,pos,af,g⟩ s H K = K (.map H.length) (H ++ [.map []]) := Eq.trans rfl rfl
@[simp ↓] theorem op_slice (t : TypeId) (x : Operand) (lo hi mx : Option Operand) : wpOp P C base ⟨d,.slice t x lo hi mx,ty,pos,af,g⟩ s H K = getV (sliceA P t (valF s x).denil (lo.map (valF s)) (hi.map (valF s)) (mx.map (valF s))) H K := by rw [← getW_retV]; rfl
@[simp ↓] theorem op_fieldAddr (t : TypeId) (x : Operand) (f : Nat) : wpOp P C base ⟨d,.fieldAddr t x f,ty,pos,af,g⟩ s H K = getV (fieldA P t (valF s x) f) H K := by rw [← getW_retV]; rfl
@[simp ↓] theorem op_indexAddr (t : TypeId) (x i : Operand) : wpOp P C base ⟨d,.indexAddr t x i,ty,pos,af,g⟩ s H K = getV (indexAddrA P t (valF s x) (valF s i)) H K := by rw [← getW_retV]; rfl
@[simp ↓] theorem op_index (t : TypeId) (x i : Operand) : wpOp P C base ⟨d,.index t x i,ty,pos,af,g⟩ s H K = getV (indexA P t (valF s x).denil (valF s i)) H K := by rw [← getW_retV]; rfl
@[simp ↓] theorem op_lookup (t : TypeId) (m k : Operand) (ok : Bool) : wpOp P C base ⟨d,.lookup t m k ok,ty,pos,af,g⟩ s H K = getV (lookupA P C H t (valF s m) (valF s k) ok) H K := by rw [← getW_retV]; rfl
@[simp ↓] theorem op_mapUpdate (t : TypeId) (m k x : Operand) : wpOp P C base ⟨d,.mapUpdate t m k x,ty,pos,af,g⟩ s H K = getH (updateA P C base H t (valF s m) (valF s k) (valF s x)) K := by rw [← getW_retU]; rfl
@[simp ↓] theorem op_insert (t : TypeId) (m k x : Operand) : wpOp P C base ⟨d,.insert t m k x,ty,pos,af,g⟩ s H K = getH (updateA P C base H t (valF s m) (valF s k) (valF s x)) K := by rw [← getW_retU]; rfl
def extractW (v : AV) (i : Nat) (H : Heap) (K : AV → Heap → Prop) : Prop := match v with | .tup vs => getV (vs[i]?) H K | _ => False
@[simp] theorem extractW_tup (vs : List AV) (i : Nat) : extractW (.tup vs) i H K = getV (vs[i]?) H K := rfl
@[simp ↓] theorem op_extract (x : Operand) (i : Nat) : wpOp P C base ⟨d,.extract x i,ty,pos,af,g⟩ s H K = extractW (valF s x) i H K := by
 rw [wpOp_op (h := by intro f args ats e; cases e)]; simp only [opA,extractW]; cases valF s x <;> first | rfl | (simp only [getW_retV])
@[simp ↓] theorem op_len (x : Operand) (t : TypeId) : wpOp P C base ⟨d,.call ⟨.builtin .len,#[x],#[t]⟩,ty,pos,af,g⟩ s H K = getV (lenA P H t (valF s x).denil) H K := by rw [← getW_retV]; rfl
@[simp ↓] theorem op_clear (x : Operand) (t : TypeId) : wpOp P C base ⟨d,.call ⟨.builtin .clear,#[x],#[t]⟩,ty,pos,af,g⟩ s H K = getW (retU (clearA P base H t (valF s x).denil)) K := Eq.trans rfl rfl
@[simp ↓] theorem op_append (x y : Operand) (ts : Array TypeId) : wpOp P C base ⟨d,.call ⟨.builtin .append,#[x,y],ts⟩,ty,pos,af,g⟩ s H K = getW (appendA P base H ts (valF s x).denil (valF s y).denil) K := Eq.trans rfl rfl
@[simp ↓] theorem op_call (f : Operand) (args : Array Operand) (ts : Array TypeId) : wpOp P C base ⟨d,.call ⟨.value f,args,ts⟩,ty,pos,af,g⟩ s H K = CallW P C base (valF s f) (args.toList.map (valF s)) H K := Eq.trans rfl rfl
def gstepB (c : Bool) (W : (AV → Heap → Prop) → Prop) (H : Heap) (K : AV → Heap → Prop) : Prop := gstep (some c) W H K
@[simp] theorem gstep_some (c : Bool) (W : (AV → Heap → Prop) → Prop) : gstep (some c) W H K = gstepB c W H K := rfl
@[congr] theorem gstepB_congr {c c' : Bool} {W W' : (AV → Heap → Prop) → Prop} (H : Heap) (K : AV → Heap → Prop) (h : c = c') (hW : c' = true → ∀ K,W K = W' K) : gstepB c W H K = gstepB c' W' H K := by
 subst h
 cases c with
 | false => rfl
 | true => exact hW rfl K
@[simp] theorem gstepB_true (W : (AV → Heap → Prop) → Prop) : gstepB true W H K = W K := Eq.trans rfl rfl
@[simp] theorem gstepB_false (W : (AV → Heap → Prop) → Prop) : gstepB false W H K = K (.tup []) H := Eq.trans rfl rfl
def gval (w : Option Bool) (r : Option AV) : Option AV := match w with | some true => r | some false => some (.tup []) | none => none
def pif (p : Bool) (a b : AV) : AV := match p with | true => a | false => b
@[congr] theorem pif_congr {p q : Bool} {a a' b b' : AV} (h : p = q) (h1 : q = true → a = a') (h2 : q = false → b = b') : pif p a b = pif q a' b' := by
 subst h; cases p <;> simp [pif,h1,h2]
@[simp] theorem pif_true (a b : AV) : pif true a b = a := Eq.trans rfl rfl
@[simp] theorem pif_false (a b : AV) : pif false a b = b := Eq.trans rfl rfl
@[simp] theorem pif_self (p : Bool) (a : AV) : pif p a a = a := by cases p <;> rfl
@[simp] theorem pif_and (p a : Bool) : pif p (.bool a) (.bool false) = .bool (p && a) := by cases p <;> cases a <;> rfl
@[simp] theorem pif_or (p a : Bool) : pif p (.bool true) (.bool a) = .bool (p || a) := by cases p <;> cases a <;> rfl
def gif (p : Bool) (r : Option AV) : Option AV := match p with | true => r | false => some (.tup [])
@[congr] theorem gif_congr {p q : Bool} {r r' : Option AV} (h : p = q) (h1 : q = true → r = r') : gif p r = gif q r' := by
 subst h; cases p <;> simp [gif,h1]
@[simp] theorem gif_true (r : Option AV) : gif true r = r := Eq.trans rfl rfl
@[simp] theorem gif_false (r : Option AV) : gif false r = some (.tup []) := Eq.trans rfl rfl
@[simp] theorem gif_some (p : Bool) (v : AV) : gif p (some v) = some (pif p v (.tup [])) := by cases p <;> rfl
@[simp] theorem gval_some (c : Bool) (r : Option AV) : gval (some c) r = gif c r := by cases c <;> rfl
@[simp] theorem pickV_bool (t : Bool) (a b : AV) : pickV (.bool t) a b = some (pif t a b) := by cases t <;> rfl
@[simp] theorem gstepB_val (c : Bool) (v : AV) : gstepB c (fun K => K v H) H K = K (pif c v (.tup [])) H := by cases c <;> rfl
theorem gstep_getV (w : Option Bool) (r : Option AV) : gstep w (fun K => getV r H K) H K = getV (gval w r) H K := by
 rcases w with _ | _ | _ <;> rfl
@[simp ↓] theorem gop_move (w : Option Bool) (x : Operand) : gstep w (fun K => wpOp P C base ⟨d,.move x,ty,pos,af,g⟩ s H K) H K = getV (gval w (some (valF s x))) H K := by rw [← gstep_getV]; rfl
@[simp ↓] theorem gop_pick (w : Option Bool) (c a b : Operand) : gstep w (fun K => wpOp P C base ⟨d,.pick c a b,ty,pos,af,g⟩ s H K) H K = getV (gval w (pickV (valF s c) (valF s a) (valF s b))) H K := by rw [← gstep_getV]; congr 1; funext K; rw [op_pick]
@[simp ↓] theorem gop_bin (w : Option Bool) (op : BinOp) (t u : TypeId) (x y : Operand) : gstep w (fun K => wpOp P C base ⟨d,.binOp op t x y u,ty,pos,af,g⟩ s H K) H K = getV (gval w (binA P C op t (valF s x) (valF s y))) H K := by rw [← gstep_getV]; congr 1; funext K; rw [op_bin]
@[simp ↓] theorem gop_un (w : Option Bool) (op : UnOp) (t : TypeId) (x : Operand) : gstep w (fun K => wpOp P C base ⟨d,.unOp op t x,ty,pos,af,g⟩ s H K) H K = getV (gval w (unA op (valF s x))) H K := by rw [← gstep_getV]; congr 1; funext K; rw [op_un]
@[simp ↓] theorem gop_load (w : Option Bool) (t : TypeId) (x : Operand) : gstep w (fun K => wpOp P C base ⟨d,.load t x,ty,pos,af,g⟩ s H K) H K = getV (gval w (loadA P H t (valF s x))) H K := by rw [← gstep_getV]; congr 1; funext K; rw [op_load]
@[simp ↓] theorem gop_field (w : Option Bool) (t : TypeId) (x : Operand) (f : Nat) : gstep w (fun K => wpOp P C base ⟨d,.fieldAddr t x f,ty,pos,af,g⟩ s H K) H K = getV (gval w (fieldA P t (valF s x) f)) H K := by rw [← gstep_getV]; congr 1; funext K; rw [op_fieldAddr]
@[simp ↓] theorem gop_iaddr (w : Option Bool) (t : TypeId) (x i : Operand) : gstep w (fun K => wpOp P C base ⟨d,.indexAddr t x i,ty,pos,af,g⟩ s H K) H K = getV (gval w (indexAddrA P t (valF s x) (valF s i))) H K := by rw [← gstep_getV]; congr 1; funext K; rw [op_indexAddr]
@[simp ↓] theorem gop_index (w : Option Bool) (t : TypeId) (x i : Operand) : gstep w (fun K => wpOp P C base ⟨d,.index t x i,ty,pos,af,g⟩ s H K) H K = getV (gval w (indexA P t (valF s x).denil (valF s i))) H K := by rw [← gstep_getV]; congr 1; funext K; rw [op_index]
@[simp ↓] theorem gop_build (w : Option Bool) (t : TypeId) (ps : Array (Nat × Operand)) : gstep w (fun K => wpOp P C base ⟨d,.build t ps,ty,pos,af,g⟩ s H K) H K = getV (gval w (buildA P t (ps.toList.map fun x => (x.1,valF s x.2)))) H K := by rw [← gstep_getV]; congr 1; funext K; rw [op_build]
@[simp ↓] theorem gop_lookup (w : Option Bool) (t : TypeId) (m k : Operand) (ok : Bool) : gstep w (fun K => wpOp P C base ⟨d,.lookup t m k ok,ty,pos,af,g⟩ s H K) H K = getV (gval w (lookupA P C H t (valF s m) (valF s k) ok)) H K := by rw [← gstep_getV]; congr 1; funext K; rw [op_lookup]
@[simp ↓] theorem gop_len (w : Option Bool) (x : Operand) (t : TypeId) : gstep w (fun K => wpOp P C base ⟨d,.call ⟨.builtin .len,#[x],#[t]⟩,ty,pos,af,g⟩ s H K) H K = getV (gval w (lenA P H t (valF s x).denil)) H K := by rw [← gstep_getV]; congr 1; funext K; rw [op_len]
end ops
@[simp] theorem denil_agg (c : List AV) : AV.denil (.agg c) = .agg c := rfl
@[simp] theorem denil_str (c : List UInt8) : AV.denil (.str c) = .str c := rfl
@[simp] theorem denil_lst (c : List (List AV)) (e : Bool) : AV.denil (.lst c e) = .lst c e := rfl
@[simp] theorem denil_int (k : IntKind) (n : Int) : AV.denil (.int k n) = .int k n := rfl
@[simp] theorem denil_nils : AV.denil .nils = .lst [] true := rfl
@[simp] theorem denil_nilm : AV.denil .nilm = .nilm := rfl
@[simp] theorem denil_map (b : Nat) : AV.denil (.map b) = .map b := rfl
@[simp] theorem denil_sl (b g e l n : Nat) : AV.denil (.sl b g e l n) = .sl b g e l n := rfl
@[simp] theorem denil_asl (b g e i l n : Nat) : AV.denil (.asl b g e i l n) = .asl b g e i l n := rfl
@[simp] theorem cells_agg (c : List AV) : AV.cells (.agg c) = c := rfl
@[simp] theorem cells_int (k : IntKind) (n : Int) : AV.cells (.int k n) = [.int k n] := rfl
@[simp] theorem cells_str (c : List UInt8) : AV.cells (.str c) = [.str c] := rfl
@[simp] theorem cells_bool (b : Bool) : AV.cells (.bool b) = [.bool b] := rfl
@[simp] theorem cells_lst (c : List (List AV)) (e : Bool) : AV.cells (.lst c e) = [.lst c e] := rfl
@[simp] theorem cells_sl (b g e l n : Nat) : AV.cells (.sl b g e l n) = [.sl b g e l n] := rfl
@[simp] theorem cells_ptr (b g e l n : Nat) : AV.cells (.ptr b g e l n) = [.ptr b g e l n] := rfl
@[simp] theorem cells_nils : AV.cells .nils = [.nils] := rfl
@[simp] theorem cells_nilp : AV.cells .nilp = [.nilp] := rfl
@[simp] theorem cells_map (b : Nat) : AV.cells (.map b) = [.map b] := rfl
@[simp] theorem cells_fn (f : FuncId) (c : List AV) : AV.cells (.fn f c) = [.fn f c] := rfl
@[simp] theorem leaf_int (k : IntKind) (n : Int) : AV.leaf (.int k n) = true := rfl
@[simp] theorem leaf_str (c : List UInt8) : AV.leaf (.str c) = true := rfl
@[simp] theorem leaf_bool (b : Bool) : AV.leaf (.bool b) = true := rfl
@[simp] theorem leaf_lst (c : List (List AV)) (e : Bool) : AV.leaf (.lst c e) = true := rfl
@[simp] theorem leaf_sl (b g e l n : Nat) : AV.leaf (.sl b g e l n) = true := rfl
@[simp] theorem leaf_ptr (b g e l n : Nat) : AV.leaf (.ptr b g e l n) = true := rfl
@[simp] theorem leaf_nils : AV.leaf .nils = true := rfl
@[simp] theorem leaf_nilp : AV.leaf .nilp = true := rfl
@[simp] theorem leaf_map (b : Nat) : AV.leaf (.map b) = true := rfl
@[simp] theorem leaf_fn (f : FuncId) (c : List AV) : AV.leaf (.fn f c) = true := rfl
@[simp] theorem allocG_eq (H : Heap) (g : Nat) (v : AV) : allocG H g v = (.ptr H.length g v.cells.length 0 0,H ++ [.rows v.cells.length g [v.cells]]) := rfl
@[simp] theorem allocA_eq (H : Heap) (v : AV) : allocA H v = (.ptr H.length 0 v.cells.length 0 0,H ++ [.rows v.cells.length 0 [v.cells]]) := rfl
@[simp] theorem addOff_ptr (b g e i f n : Nat) : addOff (.ptr b g e i f) n = some (.ptr b g e i (f + n)) := Eq.trans rfl rfl
@[simp] theorem addOff_eptr (c : List AV) (n : Nat) : addOff (.eptr c) n = if n ≤ c.length then some (.eptr (c.drop n)) else none := Eq.trans rfl rfl
@[simp] theorem wantedV_bool (b w : Bool) : wantedV (.bool b) w = some (b == w) := rfl
@[simp] theorem wantedV_tup (l : List AV) (w : Bool) : wantedV (.tup l) w = some false := rfl
def oif (p : Bool) (a b : Option Bool) : Option Bool := match p with | true => a | false => b
@[simp] theorem oif_and (p a : Bool) : oif p (some a) (some false) = some (p && a) := by cases p <;> cases a <;> rfl
@[simp] theorem wantedV_pif (c : Bool) (a b : AV) (w : Bool) : wantedV (pif c a b) w = oif c (wantedV a w) (wantedV b w) := by cases c <;> rfl
@[simp] theorem app_get (H L : Heap) (k : Nat) : (H ++ L)[H.length + k]? = L[k]? := by rw [List.getElem?_append_right (by omega)]; congr 1; omega
@[simp] theorem app_get0 (H L : Heap) : (H ++ L)[H.length]? = L[0]? := app_get H L 0
@[simp] theorem app_set (H L : Heap) (k : Nat) (v : Blk) : (H ++ L).set (H.length + k) v = H ++ L.set k v := by
 have h := List.set_append_right (s := H) (t := L) (H.length + k) v (Nat.le_add_right _ _)
 rw [Nat.add_sub_cancel_left] at h
 exact h
theorem loopC_rule {b : Code} {Q : Post} (I : Sl → Heap → Prop) (m : Sl → Heap → Nat) {s : Sl} {H : Heap} (h0 : I s H)
 (hstep : ∀ s H,I s H → wpC P C N base b s H fun e s' H' => match e with | .normal => I s' H' ∧ m s' H' < m s H | .exit i => Q (.exit i) s' H' | .ret => Q .ret s' H') :
 LoopC P C N base b s H Q := loop_rule I m h0 hstep
def cutQ (M : Sl → Heap → Prop) (Q : Post) : Post := fun e s H => match e with | .normal => M s H | .exit i => Q (.exit i) s H | .ret => Q .ret s H
@[simp ↓] theorem cutQ_normal (M : Sl → Heap → Prop) (Q : Post) (s : Sl) (H : Heap) : cutQ M Q .normal s H = M s H := Eq.trans rfl rfl
@[simp ↓] theorem cutQ_exit (M : Sl → Heap → Prop) (Q : Post) (i : Nat) (s : Sl) (H : Heap) : cutQ M Q (.exit i) s H = Q (.exit i) s H := Eq.trans rfl rfl
@[simp ↓] theorem cutQ_ret (M : Sl → Heap → Prop) (Q : Post) (s : Sl) (H : Heap) : cutQ M Q .ret s H = Q .ret s H := Eq.trans rfl rfl
theorem cut {a b : Code} (M : Sl → Heap → Prop) {s : Sl} {H : Heap} {Q : Post} (h1 : wpC P C N base a s H (cutQ M Q)) (h2 : ∀ s H,M s H → wpC P C N base b s H Q) : wpC P C N base (.seq a b) s H Q := by
 refine wpC_mono (c := a) (fun e s' H' h => ?_) h1
 cases e with
 | normal => exact h2 s' H' h
 | exit i => exact h
 | ret => exact h
end Go.Proofs.Ev
