/- A region that draws its order, whose loads are taken first: what the loads read need not be shown anew behind the last step. -/
import Derived.Deep.RegionHeld3
import Derived.Test.YtbdekdhdkdjejaaDoorRefState
namespace Go.Proofs.YtbdekdhdkdjejaaDoor
open Go.RowKit Go.Shelf

section
variable {P : Program} {ops : Array Oper} {Q : Exit → Act → World → Prop} {md : Region.Mode} {S : World → Prop}

/-- What has come up has come up behind all that it waits for. -/
def Down (md : Region.Mode) (ops : Array Oper) (listed : Array Bool) : Prop :=
  ∀ (j : Nat) (o : Oper), ops[j]? = some o → listed.getD j false = true → ∀ e ∈ o.after, Region.binds md e = true → listed.getD e.on false = true
theorem getD_false_of_true {listed : Array Bool} {j : Nat} (h : listed.getD j false = true) : listed.getD j true = true := by
  rcases Nat.lt_or_ge j listed.size with h' | h'
  · simp [h'] at h ⊢; exact h
  · simp [Array.getElem?_eq_none h'] at h
theorem down_set {listed : Array Bool} {i : Nat} (hD : Down md ops listed) (hi : i ∈ Region.ready md ops listed) : Down md ops (listed.setIfInBounds i true) := by
  intro j o ho hj e he hb
  by_cases hji : j = i
  · subst hji
    obtain ⟨_, o', ho', hall⟩ := mem_ready.1 hi
    rw [ho] at ho'
    cases ho'
    exact getD_set_true (hall e he hb)
  · rw [getD_set_ne false (Ne.symm hji)] at hj
    exact getD_set_true (hD j o ho hj e he hb)
/-- Every operation but the last has one behind it that waits for it. -/
def cover (md : Region.Mode) (ops : Array Oper) : Bool :=
  (List.range (ops.size - 1)).all fun j => (List.range ops.size).any fun k => decide (j < k) && ((ops[k]?).map fun o => o.after.any fun e => Region.binds md e && e.on == j).getD false
theorem cover_at (h : cover md ops = true) {j : Nat} (hj : j < ops.size - 1) : ∃ k o e, j < k ∧ k < ops.size ∧ ops[k]? = some o ∧ e ∈ o.after ∧ Region.binds md e = true ∧ e.on = j := by
  unfold cover at h
  rw [List.all_eq_true] at h
  have h1 := h j (List.mem_range.2 hj)
  rw [List.any_eq_true] at h1
  obtain ⟨k, hk, h2⟩ := h1
  rw [Bool.and_eq_true, decide_eq_true_eq] at h2
  obtain ⟨h3, h4⟩ := h2
  cases ho : ops[k]? with
  | none => rw [ho] at h4; cases h4
  | some o =>
    rw [ho] at h4
    simp only [Option.map_some, Option.getD_some] at h4
    rw [Array.any_eq_true'] at h4
    obtain ⟨e, he, h5⟩ := h4
    rw [Bool.and_eq_true, beq_iff_eq] at h5
    exact ⟨k, o, e, h3, List.mem_range.1 hk, ho, he, h5.1, h5.2⟩
/-- The last one waits for all. -/
theorem last_waits (hc : cover md ops = true) {listed : Array Bool} (hD : Down md ops listed) (hz : ops.size - 1 ∈ Region.ready md ops listed) : ∀ (m j : Nat), ops.size - 1 - j ≤ m → j < ops.size - 1 → listed.getD j false = true := by
  intro m
  induction m with
  | zero => intro j h1 h2; omega
  | succ m ih =>
    intro j h1 h2
    obtain ⟨k, o, e, h3, h4, h5, h6, h7, h8⟩ := cover_at hc h2
    by_cases hk : k = ops.size - 1
    · subst hk
      obtain ⟨_, o', ho', hall⟩ := mem_ready.1 hz
      rw [h5] at ho'
      cases ho'
      rw [← h8]
      exact hall e h6 h7
    · have := ih k (by omega) (by omega)
      rw [← h8]
      exact hD k o h5 this e h6 h7

/-- Whatever order is picked from here on; S holds behind every operation but the last. -/
def wpAnyL (P : Program) (md : Region.Mode) (ops : Array Oper) (Q : Exit → Act → World → Prop) (S : World → Prop) : Nat → Array Bool → Act → World → Prop
  | 0, listed, a, w => Region.ready md ops listed = [] ∧ Q .normal a w
  | fuel + 1, listed, a, w =>
    (Region.ready md ops listed = [] → Q .normal a w) ∧
    ∀ i ∈ Region.ready md ops listed, wpOp P ops Q i (fun a' w' => (S w' ∨ i = ops.size - 1) ∧ wpAnyL P md ops Q S fuel (listed.setIfInBounds i true) a' w') a w
theorem wpAny_of_last : ∀ (fuel : Nat) (listed : Array Bool) (a : Act) (w : World), wpAnyL P md ops Q S fuel listed a w → wpAny P md ops Q fuel listed a w
  | 0, _, _, _, h => h
  | fuel + 1, _, _, _, h => ⟨h.1, fun i hi => wpOp_mono (fun a' w' h' => wpAny_of_last fuel _ a' w' h'.2) (h.2 i hi)⟩
theorem wpAnyL_first {i : Nat} {oi : Oper} {v : Value} (hi : ops[i]? = some oi) (hc : cover md ops = true) (hsel : ∀ (j : Nat) (o : Oper) cs b, ops[j]? = some o → o.op ≠ .select cs b)
    (hQ : ∀ c a w, Q (.panic c) (a.put oi.dst v) w → Q (.panic c) a w) :
    ∀ (fuel : Nat) (listed : Array Bool) (a : Act) (w : World), Down md ops listed →
      (∀ j oj, ops[j]? = some oj → j ≠ i → listed.getD j true = false → (∀ e ∈ oj.after, Region.binds md e = true → e.on ≠ i) → oi.apart ops oj = true) →
      i ∈ Region.ready md ops listed → YieldsIf P ops S oi v a → S w →
      wpAnyL P md ops Q S fuel (listed.setIfInBounds i true) (a.put oi.dst v) w → wpAnyL P md ops Q S (fuel + 1) listed a w := by
  intro fuel
  induction fuel with
  | zero =>
    intro listed a w hD _ hr hy hS H
    refine ⟨fun h => (by rw [h] at hr; cases hr), fun j hj => ?_⟩
    by_cases hji : j = i
    · subst hji; exact hy.wpOp hi hS ⟨.inl hS, H⟩
    · have := ready_mono hj hji
      rw [H.1] at this
      cases this
  | succ fuel ih =>
    intro listed a w hD hfree hr hy hS H
    refine ⟨fun h => (by rw [h] at hr; cases hr), fun j hj => ?_⟩
    by_cases hji : j = i
    · subst hji; exact hy.wpOp hi hS ⟨.inl hS, H⟩
    · have h1 := H.2 j (ready_mono hj hji)
      obtain ⟨hjun, oj, hoj, hall⟩ := mem_ready.1 hj
      have hjz : j ≠ ops.size - 1 := by
        intro e
        have hil : i < ops.size := (Array.getElem?_eq_some_iff.1 hi).1
        have h2 := last_waits hc hD (e ▸ hj) (ops.size - 1 - i) i (Nat.le_refl _) (by omega)
        have h3 := (mem_ready.1 hr).1
        rw [getD_false_of_true h2] at h3
        cases h3
      have hnot : ∀ e ∈ oj.after, Region.binds md e = true → e.on ≠ i := fun e he hb heq => by
        have h1 := hall e he hb
        have h0 := (mem_ready.1 hr).1
        rw [heq] at h1
        rw [getD_false_of_true h1] at h0
        cases h0
      have h2 := wpOp_putIf hoj (hfree j oj hoj hji hjun hnot) (fun cs b => hsel i oi cs b hi) (fun cs b => hsel j oj cs b hoj) hQ hy h1
      have hfree' : ∀ k ok, ops[k]? = some ok → k ≠ i → (listed.setIfInBounds j true).getD k true = false →
          (∀ e ∈ ok.after, Region.binds md e = true → e.on ≠ i) → oi.apart ops ok = true := fun k ok hk hki hun hno => by
        refine hfree k ok hk hki ?_ hno
        by_cases hjk : j = k
        · subst hjk; exact hjun
        · rw [getD_set_ne true hjk] at hun; exact hun
      refine wpOp_mono (fun a' w' h3 => ?_) h2
      have hS' : S w' := h3.2.1.resolve_right hjz
      refine ⟨.inl hS', ih (listed.setIfInBounds j true) a' w' (down_set hD hj) hfree' (ready_mono hr (Ne.symm hji)) h3.1 hS' ?_⟩
      rw [Array.setIfInBounds_comm _ _ hji]
      exact h3.2.2

/-- Take number i first. -/
theorem wpAnyL_take {i : Nat} {oi : Oper} {v : Value} {fuel : Nat} {listed : Array Bool} {a : Act} {w : World} (hi : ops[i]? = some oi) (hc : cover md ops = true)
    (hs : Region.noSelect ops = true) (hf : Region.free md ops listed i = true) (hr : (Region.ready md ops listed).contains i = true)
    (hQ : ∀ c a w, Q (.panic c) (a.put oi.dst v) w → Q (.panic c) a w) (hS : S w ∧ Down md ops listed) (hy : YieldsIf P ops S oi v a)
    (h : S w ∧ Down md ops (listed.setIfInBounds i true) → wpAnyL P md ops Q S fuel (listed.setIfInBounds i true) (a.put oi.dst v) w) : wpAnyL P md ops Q S (fuel + 1) listed a w :=
  wpAnyL_first hi hc (Region.noSelect_spec hs) hQ fuel listed a w hS.2 (Region.free_spec hi hf) (by simpa using hr) hy hS.1 (h ⟨hS.1, down_set hS.2 (by simpa using hr)⟩)
/-- One alone may come up; it is not the last. -/
theorem wpAnyL_mid {i : Nat} {oi : Oper} {fuel : Nat} {listed : Array Bool} {a : Act} {w : World} (hi : ops[i]? = some oi) (hr : Region.ready md ops listed = [i]) (hg : oi.guard = none) (hS : S w ∧ Down md ops listed)
    (h : ∀ K : Act → World → Prop, (∀ a' w', S w' → (S w' ∧ Down md ops (listed.setIfInBounds i true) → wpAnyL P md ops Q S fuel (listed.setIfInBounds i true) a' w') → K a' w') → oi.wp P a w K Q) : wpAnyL P md ops Q S (fuel + 1) listed a w := by
  have hir : i ∈ Region.ready md ops listed := by rw [hr]; simp
  refine ⟨fun e => (by rw [hr] at e; cases e), fun j hj => ?_⟩
  rw [hr, List.mem_singleton] at hj
  subst hj
  unfold wpOp
  simp only [hi]
  have hw : Region.wanted oi (yielded ops a.tmps) = true := by simp [Region.wanted, hg]
  rw [if_pos hw]
  exact .inl (h _ fun a' w' hS' hn => ⟨.inl hS', hn ⟨hS', down_set hS.2 hir⟩⟩)
/-- The last one. -/
theorem wpAnyL_end {i : Nat} {oi : Oper} {fuel : Nat} {listed : Array Bool} {a : Act} {w : World} (hi : ops[i]? = some oi) (hr : Region.ready md ops listed = [i]) (hz : i = ops.size - 1) (hg : oi.guard = none) (he : Region.ready md ops (listed.setIfInBounds i true) = [])
    (h : oi.wp P a w (Q .normal) Q) : wpAnyL P md ops Q S (fuel + 1) listed a w := by
  refine ⟨fun e => (by rw [hr] at e; cases e), fun j hj => ?_⟩
  rw [hr, List.mem_singleton] at hj
  subst hj
  unfold wpOp
  simp only [hi]
  have hw : Region.wanted oi (yielded ops a.tmps) = true := by simp [Region.wanted, hg]
  rw [if_pos hw]
  refine .inl (Oper.wp_mono (fun a' w' hq => ⟨.inr hz, ?_⟩) h)
  cases fuel with
  | zero => exact ⟨he, hq⟩
  | succ n => exact ⟨fun _ => hq, by rw [he]; simp⟩
/-- The beginning. -/
theorem wp_region_last {id : Nat} {a : Act} {w : World} (hm : P.follows .mixedOrders = true) (hS : S w.drew)
    (h : S w.drew ∧ Down .any ops (Array.replicate ops.size false) → wpAnyL P .any ops Q S ops.size (Array.replicate ops.size false) a w.drew) : (Code.region id ops true).wp P Q a w :=
  wp_region_any hm (wpAny_of_last _ _ _ _ (h ⟨hS, fun j o _ hj => by
    exfalso
    simp only [Array.getD_eq_getD_getElem?, Array.getElem?_replicate] at hj
    split at hj <;> cases hj⟩))
end
end Go.Proofs.YtbdekdhdkdjejaaDoor
