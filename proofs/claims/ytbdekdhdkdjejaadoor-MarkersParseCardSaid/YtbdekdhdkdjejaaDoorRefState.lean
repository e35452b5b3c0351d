/- quiltref22.Parse: the state between two lines, in memory. -/
import Derived.Test.YtbdekdhdkdjejaaDoorLawExact
namespace Go.Proofs.YtbdekdhdkdjejaaDoor
open Go.RowKit Go.Shelf

/-- A row stays a row when one of its cells is set. -/
theorem row_set {w : World} {base : Nat} {e : TypeId} {size g n cap : Nat} {xs : List Value} (h : w.ownsRow base e size (.slice (some ⟨g, 0, none⟩) n cap) n xs) (j : Nat) (u : Value) :
    (w.setCell ⟨g, j, none⟩ u).ownsRow base e size (.slice (some ⟨g, 0, none⟩) n cap) n (xs.set j u) := by
  obtain ⟨h1, h2⟩ := h
  refine ⟨by rw [List.length_set]; exact h1, ?_⟩
  rcases h2 with ⟨h2, _⟩ | ⟨g', cap', cur, hv, hb, hg, hc, hm, hs, ht⟩
  · cases h2
  · cases hv
    refine .inr ⟨g, cap, cur.setIfInBounds j u, rfl, hb, heap_setCell_same w g j cur e u hg, hc, hm, by simpa using hs, ?_⟩
    rw [Array.toList_setIfInBounds, List.take_set, ht]
theorem row_lt {w : World} {base : Nat} {e : TypeId} {size : Nat} {v : Value} {n : Nat} {xs : List Value} (h : w.ownsRow base e size v n xs) {k : Nat} (a : v.ownBlock = some k) : k < w.heap.size := (row_block h a).2.1
theorem regVals_length (us : List (Bool × Value × Value)) : (regVals us).length = us.length * 3 := by
  induction us with
  | nil => rfl
  | cons u r ih =>
    have e : regVals (u :: r) = .bool u.1 :: u.2.1 :: u.2.2 :: regVals r := by unfold regVals; simp
    rw [e]
    simp only [List.length_cons, ih]
    omega
theorem regVals_snoc (us : List (Bool × Value × Value)) (u : Bool × Value × Value) : regVals (us ++ [u]) = regVals us ++ [.bool u.1, u.2.1, u.2.2] := by
  unfold regVals; rw [List.flatMap_append]; simp
theorem regVals_set2 (us : List (Bool × Value × Value)) (b : Bool) (x y z : Value) : (regVals (us ++ [(b, x, y)])).set (us.length * 3 + 2) z = regVals (us ++ [(b, x, z)]) := by
  rw [regVals_snoc, regVals_snoc, List.set_append_right _ _ (by rw [regVals_length]; omega), regVals_length]
  rw [show us.length * 3 + 2 - us.length * 3 = 2 by omega]
  rfl
theorem regVals_set1 (us : List (Bool × Value × Value)) (b : Bool) (x y z : Value) : (regVals (us ++ [(b, x, y)])).set (us.length * 3 + 1) z = regVals (us ++ [(b, z, y)]) := by
  rw [regVals_snoc, regVals_snoc, List.set_append_right _ _ (by rw [regVals_length]; omega), regVals_length]
  rw [show us.length * 3 + 1 - us.length * 3 = 1 by omega]
  rfl

/-- The regions that are complete (us), and the one that is not (tl). -/
structure RS (base : Nat) (out : List Reg) (w : World) (φ : Nat → Prop) (v : Value) (us tl : List (Bool × Value × Value)) : Prop where
  le : base ≤ w.heap.size
  row : w.ownsRow base 41 3 v (us ++ tl).length (regVals (us ++ tl))
  ulen : us.length = out.length
  regs : ∀ i (hi : i < us.length) (hj : i < out.length), us[i].1 = out[i].conf ∧ StrsIn φ w us[i].2.1 out[i].lines ∧ Strss φ w us[i].2.2 out[i].sides
  cells : ∀ b, φ b → base ≤ b ∧ ∃ cs t, w.heap[b]? = some (Obj.cells cs t (0, 0))
  apart : ∀ b, φ b → v.ownBlock ≠ some b

theorem RS.lt {base : Nat} {out : List Reg} {w : World} {φ : Nat → Prop} {v : Value} {us tl : List (Bool × Value × Value)} (h : RS base out w φ v us tl) {b : Nat} (hb : φ b) : b < w.heap.size := by
  obtain ⟨_, cs, t, hc⟩ := h.cells b hb
  exact (Array.getElem?_eq_some_iff.1 hc).1
theorem RS.next {base : Nat} {out : List Reg} {w w' : World} {φ : Nat → Prop} {v v' : Value} {us tl tl' : List (Bool × Value × Value)} (h : RS base out w φ v us tl) (hsz : w.heap.size ≤ w'.heap.size)
    (hk : ∀ b, φ b → w'.heap[b]? = w.heap[b]?) (ho : w'.ownsRow base 41 3 v' (us ++ tl').length (regVals (us ++ tl'))) (ha : ∀ b, φ b → v'.ownBlock ≠ some b) : RS base out w' φ v' us tl' := by
  have K : Keeps φ w w' := ⟨hsz, fun k _ hφ => hk k hφ⟩
  refine ⟨Nat.le_trans h.le hsz, ho, h.ulen, fun i hi hj => ?_, fun b hb => ⟨(h.cells b hb).1, cells_kept K hb (h.cells b hb).2⟩, ha⟩
  obtain ⟨h1, h2, h3⟩ := h.regs i hi hj
  exact ⟨h1, h2.keeps K, h3.keeps K⟩
/-- The last region is complete. -/
theorem RS.done {base : Nat} {out : List Reg} {w : World} {φ ψ : Nat → Prop} {v : Value} {us : List (Bool × Value × Value)} {u : Bool × Value × Value} {r : Reg} (h : RS base out w φ v us [u]) (hi : ∀ b, φ b → ψ b)
    (hu : u.1 = r.conf ∧ StrsIn ψ w u.2.1 r.lines ∧ Strss ψ w u.2.2 r.sides) (hc : ∀ b, ψ b → base ≤ b ∧ ∃ cs t, w.heap[b]? = some (Obj.cells cs t (0, 0))) (ha : ∀ b, ψ b → v.ownBlock ≠ some b) : RS base (out ++ [r]) w ψ v (us ++ [u]) [] := by
  refine ⟨h.le, by rw [List.append_nil]; exact h.row, by simp [h.ulen], fun i hi' hj => ?_, hc, ha⟩
  rw [List.length_append, List.length_singleton] at hi' hj
  rw [List.getElem_append, List.getElem_append]
  by_cases hlt : i < us.length
  · have hlt2 : i < out.length := by have := h.ulen; omega
    rw [dif_pos hlt, dif_pos hlt2]
    obtain ⟨h1, h2, h3⟩ := h.regs i hlt hlt2
    exact ⟨h1, h2.mono hi, h3.mono hi⟩
  · have hlt2 : ¬ i < out.length := by have := h.ulen; omega
    rw [dif_neg hlt, dif_neg hlt2, List.getElem_singleton, List.getElem_singleton]
    exact hu

/-- Outside of a conflict, no lines begun. -/
def ModeA (base : Nat) (s : PS) (w : World) (v : Value) : Prop := ∃ φ us, RS base s.out w φ v us [] ∧ s.lines = []
/-- Outside of a conflict, with lines. -/
def ModeB (base : Nat) (s : PS) (w : World) (v : Value) : Prop := ∃ φ us vl, RS base s.out w φ v us [(false, vl, .slice none 0 0)] ∧ Owns w base vl s.lines ∧ (∀ b, φ b → vl.ownBlock ≠ some b) ∧ s.lines.isEmpty = false
/-- Inside a conflict. -/
structure ModeC' (base : Nat) (s : PS) (w : World) (φ : Nat → Prop) (v : Value) (us : List (Bool × Value × Value)) (vs vd : Value) (ss : List Value) : Prop where
  rs : RS base s.out w φ v us [(true, .slice none 0 0, vs)]
  row : w.ownsRow base 35 1 vs (ss.length + 1) (ss ++ [vd])
  slen : ss.length = s.sides.length
  strs : ∀ i (hi : i < ss.length) (hj : i < s.sides.length), StrsIn φ w ss[i] s.sides[i]
  side : Owns w base vd s.side
  a1 : ∀ b, φ b → vs.ownBlock ≠ some b
  a2 : ∀ b, φ b → vd.ownBlock ≠ some b
def ModeC (base : Nat) (s : PS) (w : World) (v : Value) : Prop := ∃ φ us vs vd ss, ModeC' base s w φ v us vs vd ss
def RInv (base : Nat) (s : PS) (w : World) (v : Value) : Prop := (s.ins = false ∧ (ModeA base s w v ∨ ModeB base s w v)) ∨ (s.ins = true ∧ ModeC base s w v)

/-- Lines that have been begun are a region. -/
theorem flush_mode {base : Nat} {s : PS} {w : World} {v : Value} (h : ModeA base s w v ∨ ModeB base s w v) : ModeA base (flushS s) w v := by
  rcases h with ⟨φ, us, h, hl⟩ | ⟨φ, us, vl, h, ho, ha, hl⟩
  · have e : flushS s = s := by unfold flushS; rw [hl]; rfl
    rw [e]
    exact ⟨φ, us, h, hl⟩
  · have e : flushS s = { s with out := s.out ++ [⟨false, s.lines, []⟩], lines := [] } := by unfold flushS; rw [hl]; rfl
    rw [e]
    refine ⟨fun b => φ b ∨ vl.ownBlock = some b, us ++ [(false, vl, .slice none 0 0)], h.done (fun b hb => .inl hb) ⟨rfl, ⟨ho.strs, fun b hb => .inr hb⟩, ?_⟩ (fun b hb => ?_) (fun b hb => ?_), rfl⟩
    · exact ⟨none, 0, rfl, Nat.le_refl _, Nat.zero_le _, fun b hb => (by cases hb), fun _ => rfl, fun i hi => absurd hi (Nat.not_lt_zero _)⟩
    · rcases hb with hb | hb
      · exact h.cells b hb
      · exact ⟨(row_block ho hb).1, row_cells ho hb⟩
    · rcases hb with hb | hb
      · exact h.apart b hb
      · exact rows_apart ho h.row (by decide) hb
/-- A conflict ends. -/
theorem close_mode {base : Nat} {s : PS} {w : World} {v : Value} (h : ModeC base s w v) : ModeA base (closeS (sepS s)) w v := by
  obtain ⟨φ, us, vs, vd, ss, h⟩ := h
  have e : (closeS (sepS s)).out = s.out ++ [⟨true, [], s.sides ++ [s.side]⟩] := rfl
  unfold ModeA
  rw [e]
  refine ⟨fun b => φ b ∨ vs.ownBlock = some b ∨ vd.ownBlock = some b, us ++ [(true, .slice none 0 0, vs)], h.rs.done (ψ := fun b => φ b ∨ vs.ownBlock = some b ∨ vd.ownBlock = some b) (r := ⟨true, [], s.sides ++ [s.side]⟩) (fun b hb => Or.inl hb) ⟨rfl, ⟨.inl ⟨rfl, none, 0, rfl, Nat.zero_le _, fun _ => rfl⟩, At.none _ _ _⟩, ?_⟩ (fun b hb => ?_) (fun b hb => ?_), rfl⟩
  · refine (strss_of_row (φ := fun b => φ b ∨ vd.ownBlock = some b) (ss := ss ++ [vd]) (by rw [List.length_append]; exact h.row) (by simp [h.slen]) fun i hi hj => ?_).mono fun b hb => ?_
    · rw [List.length_append, List.length_singleton] at hi hj
      rw [List.getElem_append, List.getElem_append]
      by_cases hlt : i < ss.length
      · have hlt2 : i < s.sides.length := by have := h.slen; omega
        rw [dif_pos hlt, dif_pos hlt2]
        exact (h.strs i hlt hlt2).mono (fun b hb => .inl hb)
      · have hlt2 : ¬ i < s.sides.length := by have := h.slen; omega
        rw [dif_neg hlt, dif_neg hlt2, List.getElem_singleton, List.getElem_singleton]
        exact ⟨h.side.strs, fun b hb => .inr hb⟩
    · rcases hb with (hb | hb) | hb
      · exact .inl hb
      · exact .inr (.inr hb)
      · exact .inr (.inl hb)
  · rcases hb with hb | hb | hb
    · exact h.rs.cells b hb
    · exact ⟨(row_block h.row hb).1, row_cells h.row hb⟩
    · exact ⟨(row_block h.side hb).1, row_cells h.side hb⟩
  · rcases hb with hb | hb | hb
    · exact h.rs.apart b hb
    · exact rows_apart h.row h.rs.row (by decide) hb
    · exact rows_apart h.side h.rs.row (by decide) hb
/-- A conflict begins. -/
theorem open_mode {base : Nat} {s : PS} {w w' : World} {φ : Nat → Prop} {v : Value} {us : List (Bool × Value × Value)} {g cap H N : Nat} (h : RS base (flushS s).out w φ v us [])
    (hat : v.ownBlock = some g ∨ g = H) (hH : w.heap.size ≤ H) (hN : w.heap.size ≤ N) (hsz : w.heap.size ≤ w'.heap.size)
    (hrow : w'.ownsRow base 41 3 (.slice (some ⟨g, 0, none⟩) (us.length + 1) cap) (us.length + 1) (regVals us ++ [.bool true, .slice none 0 0, .slice (some ⟨N + 1, 0, none⟩) 1 1]))
    (h0 : w'.heap[N]? = some (.cells #[] 9 (0, 0))) (h1 : w'.heap[N + 1]? = some (.cells #[.slice (some ⟨N, 0, none⟩) 0 0] 35 (0, 0)))
    (hkeep : ∀ k, k < w.heap.size → v.ownBlock ≠ some k → w'.heap[k]? = w.heap[k]?) : ModeC base (openS s) w' (.slice (some ⟨g, 0, none⟩) (us.length + 1) cap) := by
  have hb : base ≤ N := Nat.le_trans h.le hN
  refine ⟨φ, us, .slice (some ⟨N + 1, 0, none⟩) 1 1, .slice (some ⟨N, 0, none⟩) 0 0, [], ?_⟩
  refine { rs := h.next hsz (fun b hφ => hkeep b (h.lt hφ) (h.apart b hφ)) ?_ (fun b hφ e => ?_), row := ?_, slen := rfl, strs := fun i hi => absurd hi (Nat.not_lt_zero _), side := ?_, a1 := fun b hφ e => ?_, a2 := fun b hφ e => ?_ }
  · rw [regVals_snoc, List.length_append]; exact hrow
  · obtain rfl : g = b := by simpa [Value.ownBlock] using e
    rcases hat with hat | hat
    · exact h.apart _ hφ hat
    · have := h.lt hφ; omega
  · exact ⟨rfl, .inr ⟨N + 1, 1, _, rfl, by omega, h1, Nat.le_refl _, by decide, rfl, rfl⟩⟩
  · exact ⟨rfl, .inr ⟨N, 0, _, rfl, hb, h0, Nat.le_refl _, Nat.zero_le _, rfl, rfl⟩⟩
  · have := h.lt hφ
    obtain rfl : N + 1 = b := by simpa [Value.ownBlock] using e
    omega
  · have := h.lt hφ
    obtain rfl : N = b := by simpa [Value.ownBlock] using e
    omega
/-- The first line of a region. -/
theorem first_mode {base : Nat} {s : PS} {x : List UInt8} {w w' : World} {φ : Nat → Prop} {v vl : Value} {us : List (Bool × Value × Value)} {g cap H : Nat} (h : RS base s.out w φ v us []) (hl : s.lines = [])
    (hat : v.ownBlock = some g ∨ g = H) (hH : w.heap.size ≤ H) (hsz : w.heap.size ≤ w'.heap.size)
    (hrow : w'.ownsRow base 41 3 (.slice (some ⟨g, 0, none⟩) (us.length + 1) cap) (us.length + 1) (regVals us ++ [.bool false, vl, .slice none 0 0]))
    (ho : w'.ownsRow base 9 1 vl 1 [strV (unquoteL x)]) (hnew : ∀ b, vl.ownBlock = some b → w.heap.size ≤ b)
    (hkeep : ∀ k, k < w.heap.size → v.ownBlock ≠ some k → w'.heap[k]? = w.heap[k]?) : ModeB base (lineS s x) w' (.slice (some ⟨g, 0, none⟩) (us.length + 1) cap) := by
  refine ⟨φ, us, vl, h.next hsz (fun b hφ => hkeep b (h.lt hφ) (h.apart b hφ)) ?_ (fun b hφ e => ?_), ?_, fun b hφ e => ?_, ?_⟩
  · rw [regVals_snoc, List.length_append]; exact hrow
  · obtain rfl : g = b := by simpa [Value.ownBlock] using e
    rcases hat with hat | hat
    · exact h.apart _ hφ hat
    · have := h.lt hφ; omega
  · unfold Owns lineS
    rw [hl]
    exact ho
  · have := h.lt hφ
    have := hnew b e
    omega
  · unfold lineS; simp
/-- A further line. -/
theorem more_mode {base : Nat} {s : PS} {x : List UInt8} {w w' : World} {φ : Nat → Prop} {v vl : Value} {us : List (Bool × Value × Value)} {g cap H : Nat} (h : RS base s.out w φ v us [(false, vl, .slice none 0 0)]) (ha : ∀ b, φ b → vl.ownBlock ≠ some b)
    (hat : vl.ownBlock = some g ∨ g = H) (hH : w.heap.size ≤ H) (hsz : w.heap.size ≤ w'.heap.size)
    (hrow : w'.ownsRow base 41 3 v (us.length + 1) (regVals (us ++ [(false, .slice (some ⟨g, 0, none⟩) (s.lines.length + 1) cap, .slice none 0 0)])))
    (hown : w'.ownsRow base 9 1 (.slice (some ⟨g, 0, none⟩) (s.lines.length + 1) cap) (s.lines.length + 1) (s.lines.map strV ++ [strV (unquoteL x)]))
    (hkeep : ∀ k, k < w.heap.size → vl.ownBlock ≠ some k → v.ownBlock ≠ some k → w'.heap[k]? = w.heap[k]?) : ModeB base (lineS s x) w' v := by
  refine ⟨φ, us, .slice (some ⟨g, 0, none⟩) (s.lines.length + 1) cap, h.next hsz (fun b hφ => hkeep b (h.lt hφ) (ha b hφ) (h.apart b hφ)) ?_ h.apart, ?_, fun b hφ e => ?_, ?_⟩
  · rw [List.length_append]; exact hrow
  · unfold Owns lineS
    rw [List.length_append, List.map_append]
    exact hown
  · obtain rfl : g = b := by simpa [Value.ownBlock] using e
    rcases hat with hat | hat
    · exact ha _ hφ hat
    · have := h.lt hφ; omega
  · unfold lineS; simp
/-- A line of a side. -/
theorem side_mode {base : Nat} {s : PS} {x : List UInt8} {w w' : World} {φ : Nat → Prop} {v vs vd : Value} {us : List (Bool × Value × Value)} {ss : List Value} {g cap H : Nat} (h : ModeC' base s w φ v us vs vd ss)
    (hat : vd.ownBlock = some g ∨ g = H) (hH : w.heap.size ≤ H) (hsz : w.heap.size ≤ w'.heap.size)
    (hrow : w'.ownsRow base 41 3 v (us.length + 1) (regVals (us ++ [(true, .slice none 0 0, vs)])))
    (hrs : w'.ownsRow base 35 1 vs (ss.length + 1) (ss ++ [.slice (some ⟨g, 0, none⟩) (s.side.length + 1) cap]))
    (hown : w'.ownsRow base 9 1 (.slice (some ⟨g, 0, none⟩) (s.side.length + 1) cap) (s.side.length + 1) (s.side.map strV ++ [strV (unquoteL x)]))
    (hkeep : ∀ k, k < w.heap.size → vd.ownBlock ≠ some k → vs.ownBlock ≠ some k → w'.heap[k]? = w.heap[k]?) : ModeC base (sideS s x) w' v := by
  have K : Keeps φ w w' := ⟨hsz, fun k hk hφ => hkeep k hk (h.a2 k hφ) (h.a1 k hφ)⟩
  refine ⟨φ, us, vs, .slice (some ⟨g, 0, none⟩) (s.side.length + 1) cap, ss, ?_⟩
  refine { rs := h.rs.next hsz (fun b hφ => hkeep b (h.rs.lt hφ) (h.a2 b hφ) (h.a1 b hφ)) (by rw [List.length_append]; exact hrow) h.rs.apart, row := hrs, slen := h.slen, strs := fun i hi hj => (h.strs i hi hj).keeps K, side := ?_, a1 := h.a1, a2 := fun b hφ e => ?_ }
  · unfold Owns sideS
    rw [List.length_append, List.map_append]
    exact hown
  · obtain rfl : g = b := by simpa [Value.ownBlock] using e
    rcases hat with hat | hat
    · exact h.a2 _ hφ hat
    · have := h.rs.lt hφ; omega
/-- A further side. -/
theorem next_mode {base : Nat} {s : PS} {w w' : World} {φ : Nat → Prop} {v vs vd : Value} {us : List (Bool × Value × Value)} {ss : List Value} {g cap H N : Nat} (h : ModeC' base s w φ v us vs vd ss)
    (hat : vs.ownBlock = some g ∨ g = H) (hH : w.heap.size ≤ H) (hN : w.heap.size ≤ N) (hsz : w.heap.size ≤ w'.heap.size)
    (hrow : w'.ownsRow base 41 3 v (us.length + 1) (regVals (us ++ [(true, .slice none 0 0, .slice (some ⟨g, 0, none⟩) (ss.length + 1 + 1) cap)])))
    (hrs : w'.ownsRow base 35 1 (.slice (some ⟨g, 0, none⟩) (ss.length + 1 + 1) cap) (ss.length + 1 + 1) ((ss ++ [vd]) ++ [.slice (some ⟨N, 0, none⟩) 0 0]))
    (h0 : w'.heap[N]? = some (.cells #[] 9 (0, 0)))
    (hkeep : ∀ k, k < w.heap.size → vs.ownBlock ≠ some k → v.ownBlock ≠ some k → w'.heap[k]? = w.heap[k]?) : ModeC base (sepS s) w' v := by
  have hb : base ≤ N := Nat.le_trans h.rs.le hN
  have kd : ∀ k, vd.ownBlock = some k → w'.heap[k]? = w.heap[k]? := fun k hk => hkeep k (row_lt h.side hk) (rows_apart h.side h.row (by decide) hk) (rows_apart h.side h.rs.row (by decide) hk)
  have K : Keeps (fun b => φ b ∨ vd.ownBlock = some b) w w' := ⟨hsz, fun k hk hφ => by
    rcases hφ with hφ | hφ
    · exact hkeep k hk (h.a1 k hφ) (h.rs.apart k hφ)
    · exact kd k hφ⟩
  have hrs2 : RS base s.out w (fun b => φ b ∨ vd.ownBlock = some b) v us [(true, .slice none 0 0, vs)] := by
    refine ⟨h.rs.le, h.rs.row, h.rs.ulen, fun i hi hj => ?_, fun b hb2 => ?_, fun b hb2 => ?_⟩
    · obtain ⟨q1, q2, q3⟩ := h.rs.regs i hi hj
      exact ⟨q1, q2.mono (fun b hb => .inl hb), q3.mono (fun b hb => .inl hb)⟩
    · rcases hb2 with hb2 | hb2
      · exact h.rs.cells b hb2
      · exact ⟨(row_block h.side hb2).1, row_cells h.side hb2⟩
    · rcases hb2 with hb2 | hb2
      · exact h.rs.apart b hb2
      · exact rows_apart h.side h.rs.row (by decide) hb2
  refine ⟨fun b => φ b ∨ vd.ownBlock = some b, us, .slice (some ⟨g, 0, none⟩) (ss.length + 1 + 1) cap, .slice (some ⟨N, 0, none⟩) 0 0, ss ++ [vd], ?_⟩
  refine { rs := hrs2.next hsz (fun b hφ => ?_) (by rw [List.length_append]; exact hrow) hrs2.apart, row := ?_, slen := ?_, strs := fun i hi hj => ?_, side := ⟨rfl, .inr ⟨N, 0, _, rfl, hb, h0, Nat.le_refl _, Nat.zero_le _, rfl, rfl⟩⟩, a1 := fun b hφ e => ?_, a2 := fun b hφ e => ?_ }
  · exact K.same b (hrs2.lt hφ) hφ
  · rw [List.length_append]; exact hrs
  · show (ss ++ [vd]).length = (s.sides ++ [s.side]).length
    rw [List.length_append, List.length_append, h.slen]; rfl
  · have hj2 : i < (s.sides ++ [s.side]).length := hj
    show StrsIn _ w' (ss ++ [vd])[i] ((s.sides ++ [s.side])[i]'hj2)
    have hi' : i < ss.length + 1 := by simpa using hi
    rw [List.getElem_append, List.getElem_append]
    by_cases hlt : i < ss.length
    · have hlt2 : i < s.sides.length := by have := h.slen; omega
      rw [dif_pos hlt, dif_pos hlt2]
      exact ((h.strs i hlt hlt2).mono (fun b hb => .inl hb)).keeps K
    · have hlt2 : ¬ i < s.sides.length := by have := h.slen; omega
      rw [dif_neg hlt, dif_neg hlt2, List.getElem_singleton, List.getElem_singleton]
      exact ⟨Owns.strs (base := base) (row_keep h.side kd), fun b hb => .inr hb⟩
  · obtain rfl : g = b := by simpa [Value.ownBlock] using e
    have hb1 : g < w.heap.size ∧ vs.ownBlock ≠ some g := by
      refine ⟨hrs2.lt hφ, ?_⟩
      rcases hφ with hφ | hφ
      · exact h.a1 _ hφ
      · exact rows_apart h.side h.row (by decide) hφ
    rcases hat with hat | hat
    · exact hb1.2 hat
    · omega
  · have := hrs2.lt hφ
    obtain rfl : N = b := by simpa [Value.ownBlock] using e
    omega
/-- What has been put out reads as it is. -/
theorem mode_regs {base : Nat} {out : List Reg} {w : World} {φ : Nat → Prop} {v : Value} {us : List (Bool × Value × Value)} (h : RS base out w φ v us []) : Regs Any w v out := by
  have hrow := h.row
  rw [List.append_nil] at hrow
  obtain ⟨h1, h2⟩ := id hrow
  rcases h2 with ⟨rfl, h2⟩ | ⟨g, cap, cur, rfl, hb, hg, hc, hm, hs1, ht⟩
  · have : out = [] := List.eq_nil_of_length_eq_zero (by rw [← h.ulen]; exact h2)
    rw [this]
    exact regs_nil _ _
  · refine ⟨some ⟨g, 0, none⟩, cap, by rw [h.ulen], by rw [← h.ulen]; exact hc, hm, fun b _ => trivial, fun e => (by cases e), fun i hi => ?_⟩
    have hi' : i < us.length := by rw [h.ulen]; exact hi
    obtain ⟨v0, v1, v2⟩ := regVals_get us i hi'
    obtain ⟨e0, e1, e2⟩ := h.regs i hi' hi
    refine ⟨g, 0, us[i].2.1, us[i].2.2, rfl, (Array.getElem?_eq_some_iff.1 hg).1, ?_, ?_, ?_, e1.mono (fun _ _ => trivial), e2.mono (fun _ _ => trivial)⟩
    · have := World.ownsRow.cells hrow (g := g) rfl _ _ v0
      rw [addr_add, e0] at this
      exact this
    · have := World.ownsRow.cells hrow (g := g) rfl _ _ v1
      rw [addr_add] at this
      rw [Nat.add_assoc]
      exact this
    · have := World.ownsRow.cells hrow (g := g) rfl _ _ v2
      rw [addr_add] at this
      rw [Nat.add_assoc]
      exact this
end Go.Proofs.YtbdekdhdkdjejaaDoor
