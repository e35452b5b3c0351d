/- How a slice of regions reads that came in as an argument. -/
import Derived.Test.YtbdekdhdkdjejaaDoorGreatR
import Derived.Test.YtbdekdhdkdjejaaDoorFrame
import Derived.Deep.Slices
namespace Go.Proofs.YtbdekdhdkdjejaaDoor
open Go.ChangeShapes Go.WideShapes Go.ChangeAt Go.RowKit Go.Deep
open Go.ChangeMaps (open_string shut_string)

def bulkS (xs : List (List UInt8)) : Nat := xs.length + total xs
def bulkSS (xss : List (List (List UInt8))) : Nat := (xss.map bulkS).sum
def bulkReg (r : Reg) : Nat := bulkS r.lines + bulkSS r.sides + r.sides.length

section
variable {H : Type} {enc : TypeId × Value → H} {W : World} {base : Nat} {v : Value} {d : DataW H} {p : List MemPlace}

theorem bulk_strs (ss : List ByteArray) : Rows.uptoBulkAll (strs ss : List (DataW H)) = bulkS (ss.map fun s => s.data.toList) := by
  induction ss with
  | nil => rfl
  | cons s r ih =>
    have e : (strs (s :: r) : List (DataW H)) = .lit (.string s.data.toList) :: strs r := rfl
    rw [e, Rows.uptoBulkAll, ih]
    simp only [Rows.uptoBulk, bulkS, total, List.map_cons, List.length_cons, List.length_map, List.sum_cons]
    omega
theorem bulk_map {α : Type} (l : List α) (D : α → DataW H) (g : α → Nat) (h : ∀ i ∈ l, g i ≤ Rows.uptoBulk (D i)) : (l.map g).sum ≤ Rows.uptoBulkAll (l.map D) := by
  induction l with
  | nil => exact Nat.zero_le _
  | cons x r ih =>
    have h1 := h x (by simp)
    have h2 := ih (fun i hi => h i (by simp [hi]))
    simp only [List.map_cons, List.sum_cons, Rows.uptoBulkAll]
    omega
theorem addr_at {b off : Nat} (i : Nat) : (⟨b, off, none⟩ : Addr).add i = ⟨b, off + i, none⟩ := by unfold Addr.add; split <;> simp_all

theorem strs_of_fuel {fuel : Nat} (h : DataW.trod enc Tryd.prog W 0 (fun _ => true) true fuel 35 [v] = some (d, p)) :
    ∃ xs : List (List UInt8), Strs W v xs ∧ bulkS xs + 1 ≤ Rows.uptoBulk d := by
  rcases open_strings Tryd.underlying35 Tryd.underlying9 cells9 h with ⟨hcs, hx⟩ | ⟨a, len, cap, ss, hcs, _, hl, hm, hz, hx, hcell, hsz⟩
  · simp only [List.cons.injEq, and_true] at hcs
    simp only [Prod.mk.injEq] at hx
    obtain ⟨rfl, rfl⟩ := hx
    subst hcs
    exact ⟨[], .inl ⟨rfl, none, 0, rfl, Nat.zero_le _, fun _ => rfl⟩, Nat.le_refl _⟩
  · simp only [List.cons.injEq, and_true] at hcs
    subst hcs
    simp only [if_true] at hz
    simp only [Prod.mk.injEq] at hx
    obtain ⟨rfl, rfl⟩ := hx
    have hlen : ((ss.take len).map fun s => s.data.toList).length = len := by simp; omega
    refine ⟨(ss.take len).map fun s => s.data.toList, ?_, ?_⟩
    · by_cases h0 : len = 0
      · subst h0
        exact .inl ⟨by simp, _, _, rfl, hm, fun h => by cases h⟩
      · have h1 := hcell 0 (by omega)
        obtain ⟨b, off, spot⟩ := a
        have hspot : spot = none := by simpa [Addr.add] using World.cell?_spot h1
        subst hspot
        refine .inr ⟨b, off, cap, by rw [hlen], by omega, by omega, hm, ?_, fun i hi => ?_⟩
        · have := World.block_lt_of_cell? W _ h1
          simpa [Addr.add] using this
        · rw [hlen] at hi
          have := hcell i (by omega)
          rw [addr_at] at this
          rw [this]
          congr 2
          rw [List.getElem?_map, List.getElem?_take, if_pos hi, List.getD_eq_getElem?_getD]
          have hi' : i < ss.length := by omega
          rw [List.getElem?_eq_getElem hi']
          exact B_data _
    · have := bulk_strs (H := H) (ss.take len)
      simp only [Rows.uptoBulk]
      omega

theorem cells35 : Tryd.prog.cellsOf 35 = 1 := by kernel_rfl
theorem cells39 : Tryd.prog.cellsOf 39 = 1 := by kernel_rfl
theorem cells4 : Tryd.prog.cellsOf 4 = 1 := by kernel_rfl
theorem cells41 : Tryd.prog.cellsOf 41 = 3 := by kernel_rfl

theorem sum_plus {α : Type} (l : List α) (f : α → Nat) : (l.map fun i => f i + 1).sum = (l.map f).sum + l.length := by
  induction l with
  | nil => rfl
  | cons x r ih => simp only [List.map_cons, List.sum_cons, List.length_cons, ih]; omega

theorem strss_of_fuel {fuel : Nat} (h : DataW.trod enc Tryd.prog W 0 (fun _ => true) true fuel 39 [v] = some (d, p)) :
    ∃ xss : List (List (List UInt8)), Strss Any W v xss ∧ bulkSS xss + xss.length + 1 ≤ Rows.uptoBulk d := by
  rcases open_slice Tryd.underlying39 h with ⟨hcs, hx⟩ | ⟨a, len, cap, m, n, D, Pl, hcs, _, hl, hm, hmm, hx, hi⟩
  · simp only [List.cons.injEq, and_true] at hcs
    simp only [Prod.mk.injEq] at hx
    obtain ⟨rfl, rfl⟩ := hx
    subst hcs
    exact ⟨[], ⟨none, 0, rfl, Nat.le_refl _, Nat.zero_le _, fun _ _ => trivial, fun _ => rfl, fun i hi => absurd hi (Nat.not_lt_zero _)⟩, Nat.le_refl _⟩
  · simp only [List.cons.injEq, and_true] at hcs
    subst hcs
    simp only [if_true] at hmm
    simp only [Prod.mk.injEq] at hx
    obtain ⟨rfl, rfl⟩ := hx
    have key : ∀ i, ∃ xs : List (List UInt8), i < m → (∃ u, W.cell? (a.add i) = some u ∧ Strs W u xs ∧ bulkS xs + 1 ≤ Rows.uptoBulk (D i)) := by
      intro i
      by_cases him : i < m
      · obtain ⟨cs', hc, ht⟩ := hi i him
        rw [cells35] at hc
        obtain ⟨_, hcl, hat⟩ := World.cells?_some hc
        match cs', hcl with
        | [u], _ =>
          obtain ⟨xs, h1, h2⟩ := strs_of_fuel ht
          have h3 := hat 0 (by omega)
          refine ⟨xs, fun _ => ⟨u, ?_, h1, h2⟩⟩
          have e : (a.add (i * 1)).add 0 = a.add i := by
            rw [Nat.mul_one]
            obtain ⟨b, off, spot⟩ := a
            unfold Addr.add
            cases spot <;> simp
          rw [e] at h3
          simpa using h3
      · exact ⟨[], fun h => absurd h him⟩
    obtain ⟨f, hf⟩ := Classical.axiomOfChoice key
    have hlen : ((List.range len).map f).length = len := by simp
    refine ⟨(List.range len).map f, ⟨some a, cap, by rw [hlen], by rw [hlen]; exact hl, hm, fun _ _ => trivial, fun e => (by cases e), fun i hil => ?_⟩, ?_⟩
    · rw [hlen] at hil
      obtain ⟨u, h1, h2, _⟩ := hf i (by omega)
      obtain ⟨b, off, spot⟩ := a
      have hspot : spot = none := by
        obtain ⟨u0, h0, _⟩ := hf 0 (by omega)
        have := World.cell?_spot h0
        simpa [Addr.add] using this
      subst hspot
      rw [addr_at] at h1
      refine ⟨b, off, u, rfl, ?_, h1, ⟨by simpa using h2, fun _ _ => trivial⟩⟩
      exact World.block_lt_of_cell? W _ h1
    · have h1 := bulk_map (List.range len) D (fun i => bulkS (f i) + 1) (fun i hi2 => (hf i (by have := List.mem_range.1 hi2; omega)).choose_spec.2.2)
      rw [sum_plus] at h1
      simp only [Rows.uptoBulk, bulkSS, List.map_map, List.length_map, List.length_range] at h1 ⊢
      have e : (List.map (bulkS ∘ f) (List.range len)).sum = (List.map (fun i => bulkS (f i)) (List.range len)).sum := rfl
      omega

theorem add_three {a : Addr} {i j : Nat} (h : a.spot = none) : (a.add (i * 3)).add j = ⟨a.block, a.off + i * 3 + j, none⟩ := by
  obtain ⟨b, off, spot⟩ := a
  simp only at h
  subst h
  rw [addr_at, addr_at]

theorem regs_of_fuel {fuel : Nat} (h : DataW.trod enc Tryd.prog W 0 (fun _ => true) true fuel 22 [v] = some (d, p)) :
    ∃ rs : List Reg, Regs Any W v rs ∧ (rs.map bulkReg).sum + rs.length + 1 ≤ Rows.uptoBulk d := by
  rcases open_slice Tryd.underlying22 h with ⟨hcs, hx⟩ | ⟨a, len, cap, m, n, D, Pl, hcs, _, hl, hm, hmm, hx, hi⟩
  · simp only [List.cons.injEq, and_true] at hcs
    simp only [Prod.mk.injEq] at hx
    obtain ⟨rfl, rfl⟩ := hx
    subst hcs
    exact ⟨[], regs_nil _ _, Nat.le_refl _⟩
  · simp only [List.cons.injEq, and_true] at hcs
    subst hcs
    simp only [if_true] at hmm
    simp only [Prod.mk.injEq] at hx
    obtain ⟨rfl, rfl⟩ := hx
    have key : ∀ i, ∃ r : Reg, i < m → (∃ u1 u2, W.cell? ((a.add (i * 3)).add 0) = some (.bool r.conf) ∧ W.cell? ((a.add (i * 3)).add 1) = some u1 ∧ W.cell? ((a.add (i * 3)).add 2) = some u2 ∧ Strs W u1 r.lines ∧ Strss Any W u2 r.sides ∧ bulkReg r + 1 ≤ Rows.uptoBulk (D i)) := by
      intro i
      by_cases him : i < m
      · obtain ⟨cs', hc, ht⟩ := hi i him
        rw [cells41] at hc
        obtain ⟨_, hcl, hat⟩ := World.cells?_some hc
        match cs', hcl with
        | [c0, c1, c2], _ =>
          have hu41 : ∃ f0 f1 f2 : Field, Tryd.prog.underlying 41 = some (.struct #[f0, f1, f2]) ∧ f0.type = 4 ∧ f1.type = 35 ∧ f2.type = 39 ∧ f0.offset = 0 ∧ f1.offset = 1 ∧ f2.offset = 2 := ⟨_, _, _, Tryd.underlying41, rfl, rfl, rfl, rfl, rfl, rfl⟩
          obtain ⟨f0, f1, f2, hu, t0, t1, t2, o0, o1, o2⟩ := hu41
          obtain ⟨xs, n', _, hx, _, hlen, hg⟩ := DataW.trod_struct hu ht
          match xs, hlen with
          | [y0, y1, y2], _ =>
            have q0 := hg 0 f0 rfl
            have q1 := hg 1 f1 rfl
            have q2 := hg 2 f2 rfl
            rw [t0, o0, cells4] at q0
            rw [t1, o1, cells35] at q1
            rw [t2, o2, cells39] at q2
            obtain ⟨b, e0, e1⟩ := DataW.trod_bool Tryd.underlying4 q0
            simp at e0
            obtain ⟨ls, s1, s2⟩ := strs_of_fuel (d := y1.1) (p := y1.2) q1
            obtain ⟨ss, s3, s4⟩ := strss_of_fuel (d := y2.1) (p := y2.2) q2
            have h0 := hat 0 (by omega)
            have h1 := hat 1 (by omega)
            have h2 := hat 2 (by omega)
            refine ⟨⟨b, ls, ss⟩, fun _ => ⟨c1, c2, ?_, by simpa using h1, by simpa using h2, s1, s3, ?_⟩⟩
            · rw [h0, ← e0]; rfl
            · simp only [Prod.mk.injEq] at hx
              rw [hx.1]
              simp only [List.map_cons, List.map_nil, Rows.uptoBulk, Rows.uptoBulkAll, bulkReg]
              omega
      · exact ⟨⟨false, [], []⟩, fun h => absurd h him⟩
    obtain ⟨f, hf⟩ := Classical.axiomOfChoice key
    have hlen : ((List.range len).map f).length = len := by simp
    refine ⟨(List.range len).map f, ⟨some a, cap, by rw [hlen], by rw [hlen]; exact hl, hm, fun _ _ => trivial, fun e => (by cases e), fun i hil => ?_⟩, ?_⟩
    · rw [hlen] at hil
      have hspot : a.spot = none := by
        obtain ⟨_, _, h0, _⟩ := hf 0 (by omega)
        have := World.cell?_spot h0
        simpa [Addr.add] using this
      obtain ⟨u1, u2, h0, h1, h2, h3, h4, _⟩ := hf i (by omega)
      rw [add_three hspot] at h0 h1 h2
      obtain ⟨b, off, spot⟩ := a
      simp only at hspot h0 h1 h2
      subst hspot
      refine ⟨b, off, u1, u2, rfl, World.block_lt_of_cell? W _ h0, ?_, ?_, ?_, ⟨by simpa using h3, fun _ _ => trivial⟩, by simpa using h4⟩
      · simpa using h0
      · simpa using h1
      · simpa using h2
    · have h1 := bulk_map (List.range len) D (fun i => bulkReg (f i) + 1) (fun i hi2 => by
        obtain ⟨_, _, _, _, _, _, _, hb⟩ := hf i (by have := List.mem_range.1 hi2; omega)
        exact hb)
      rw [sum_plus] at h1
      simp only [Rows.uptoBulk, List.map_map, List.length_map, List.length_range] at h1 ⊢
      have e : (List.map (bulkReg ∘ f) (List.range len)).sum = (List.map (fun i => bulkReg (f i)) (List.range len)).sum := rfl
      omega

theorem sum_mono {α : Type} (l : List α) (f g : α → Nat) (h : ∀ x ∈ l, f x ≤ g x) : (l.map f).sum ≤ (l.map g).sum := by
  induction l with
  | nil => exact Nat.le_refl _
  | cons x r ih =>
    have h1 := h x (by simp)
    have h2 := ih (fun y hy => h y (by simp [hy]))
    simp only [List.map_cons, List.sum_cons]
    omega
theorem sum_mem {α : Type} (l : List α) (f : α → Nat) {x : α} (h : x ∈ l) : f x ≤ (l.map f).sum := by
  induction l with
  | nil => cases h
  | cons y r ih =>
    simp only [List.map_cons, List.sum_cons]
    rcases List.mem_cons.1 h with rfl | h
    · omega
    · have := ih h; omega
theorem bulk_cnt (r : Reg) : cntA (sidesOf r) ≤ bulkReg r ∧ bytA (sidesOf r) ≤ bulkReg r := by
  have h1 : (r.sides.map List.length).sum ≤ bulkSS r.sides := sum_mono _ _ _ fun x _ => by unfold bulkS; omega
  have h2 : (r.sides.map total).sum ≤ bulkSS r.sides := sum_mono _ _ _ fun x _ => by unfold bulkS; omega
  unfold cntA bytA sidesOf bulkReg
  simp only [List.map_cons, List.sum_cons]
  unfold bulkS
  omega
/-- What is known of the regions' sizes. -/
structure Sized (rs : List Reg) : Prop where
  cnt : cntR rs ≤ 1048576
  byt : bytR rs ≤ 1048576
  len : rs.length ≤ 1048576
  sides : ∀ r ∈ rs, r.sides.length ≤ 1048576
theorem regs_of_trod (hok : Value.okWide Tryd.prog W .any base 22 v) (h : DataW.Trod enc Tryd.prog W 0 (fun _ => true) true 22 v d p) (hw : Rows.uptoBulk d ≤ 1048576) :
    ∃ rs : List Reg, Regs Any W v rs ∧ Sized rs := by
  obtain ⟨a0, len, cap, rfl⟩ := okWide_slice Tryd.underlying22 hok
  obtain ⟨fuel, hf⟩ := h
  obtain ⟨rs, h1, h2⟩ := regs_of_fuel (by simpa [Value.cells] using hf)
  have h3 : cntR rs ≤ (rs.map bulkReg).sum := sum_mono _ _ _ fun r _ => (bulk_cnt r).1
  have h4 : bytR rs ≤ (rs.map bulkReg).sum := sum_mono _ _ _ fun r _ => (bulk_cnt r).2
  refine ⟨rs, h1, by omega, by omega, by omega, fun r hr => ?_⟩
  have h5 := sum_mem rs bulkReg hr
  unfold bulkReg at h5
  unfold bulkReg at h2
  omega
end
end Go.Proofs.YtbdekdhdkdjejaaDoor
