/- markers.Parse at a string that is no text. markers.Parse: what holds between two rounds. markers.Parse at a text. -/
import Derived.Test.YtbdekdhdkdjejaaDoorState
import Derived.Test.YtbdekdhdkdjejaaDoorNumIter
import Derived.Test.YtbdekdhdkdjejaaDoorSplitMain
namespace Go.Proofs.YtbdekdhdkdjejaaDoor
open Go.RowKit Go.Shelf

def ParseOut (l : List UInt8) (w : World) (e : Ending) (w' : World) : Prop :=
  ∃ v, e = .returned (.tuple #[v, .int .i64 ((parseL l).2.1 : Nat), .int .i64 ((parseL l).2.2 : Nat)]) ∧ Regs Any w' v (parseL l).1 ∧ Below w.heap.size w w'
theorem regs_nil (φ : Nat → Prop) (w : World) : Regs φ w (.slice none 0 0) [] := ⟨none, 0, rfl, Nat.le_refl _, Nat.zero_le _, At.none _ _ _, fun _ => rfl, fun _ hi => absurd hi (Nat.not_lt_zero _)⟩

theorem boxed_below {A Z : World} {b : Nat} {t : TypeId} {v : Value} (h : Boxed A b t v) (hb : Below A.heap.size A Z) : Boxed Z b t v := (hb.block b h.lt).trans h

theorem results19 (tmps : Array Value) (W : World) (b0 b1 b2 : Nat) (a : Option Addr) (n c : Nat) (i j : Int) (h2 : tmps[2]?.getD undef = .pointer (some ⟨b0, 0, none⟩)) (h3 : tmps[3]?.getD undef = .pointer (some ⟨b1, 0, none⟩)) (h4 : tmps[4]?.getD undef = .pointer (some ⟨b2, 0, none⟩))
    (c0 : W.cell? ⟨b0, 0, none⟩ = some (.slice a n c)) (c1 : W.cell? ⟨b1, 0, none⟩ = some (.int .i64 i)) (c2 : W.cell? ⟨b2, 0, none⟩ = some (.int .i64 j)) :
    (results Tryd.f19 tmps).run Tryd.prog W = .ok (.tuple #[.slice a n c, .int .i64 i, .int .i64 j]) W := by
  simp [results, Tryd.results19, go_sem, h2, h3, h4, c0, c1, c2]

set_option maxRecDepth 100000 in
set_option maxHeartbeats 1000000 in
theorem parse_err (l : List UInt8) (w : World) (h : (splitL l).2 ≠ 0) : Calls Tryd.prog 19 #[.string (B l)] w (ParseOut l w) := by
  have hb : (((splitL l).2 : Int) != 0) = true := by rw [bne_iff_ne]; omega
  have HP := Lib.hid (show parseL l = ([], 0, (splitL l).2) from by unfold parseL; rw [if_neg h])
  clear h
  have b0 := ((Boxed.new w 22 (.slice none 0 0)).alloc (.cells #[.int .i64 0] 3)).alloc (.cells #[.int .i64 0] 25)
  have b1 := (Boxed.new (w.alloc (.cells #[.slice none 0 0] 22)) 3 (.int .i64 0)).alloc (.cells #[.int .i64 0] 25)
  have b2 := Boxed.new ((w.alloc (.cells #[.slice none 0 0] 22)).alloc (.cells #[.int .i64 0] 3)) 25 (.int .i64 0)
  simp only [World.size_alloc] at b1 b2
  have HB := Lib.hid (show Below w.heap.size w (((w.alloc (.cells #[.slice none 0 0] 22)).alloc (.cells #[.int .i64 0] 3)).alloc (.cells #[.int .i64 0] 25)) from (((Below.refl _ w).alloc (Nat.le_refl _) _).alloc (by simp) _).alloc (by simp; omega) _)
  go_enter Tryd.func19, Tryd.ntmps19
  go_wp2_with fail
  refine (split_any _ _).mono ?_
  rintro e w2 ⟨v2, rfl, hs2, hb2⟩
  have c0 := (boxed_below b0 hb2).cell
  have f0 := (boxed_below b0 hb2).frozen
  have c1 := (boxed_below b1 hb2).cell
  have f1 := (boxed_below b1 hb2).frozen
  have c2 := (boxed_below b2 hb2).cell
  have f2 := (boxed_below b2 hb2).frozen
  have HB2 := Lib.hid (HB.out.trans (hb2.mono HB.out.size))
  have HZ := Lib.hid (show w.heap.size ≤ w2.heap.size from HB2.out.size)
  have B0 := Lib.hid (boxed_below b0 hb2)
  have B1 := Lib.hid (boxed_below b1 hb2)
  have B2 := Lib.hid (boxed_below b2 hb2)
  clear b0 b1 b2 HB hs2 hb2
  go_wp2_with fail
  have d0 : Boxed (((w2.setCell ⟨w.heap.size, 0, none⟩ (.slice none 0 0)).setCell ⟨w.heap.size + 1, 0, none⟩ (.int .i64 0)).setCell ⟨w.heap.size + 1 + 1, 0, none⟩ (.int .i64 (splitL l).2)) w.heap.size 22 (.slice none 0 0) :=
    (((B0.out.set _).kept (grownBy_setCell' _ _ _) (by simp)).kept (grownBy_setCell' _ _ _) (by simp; omega))
  have d1 : Boxed (((w2.setCell ⟨w.heap.size, 0, none⟩ (.slice none 0 0)).setCell ⟨w.heap.size + 1, 0, none⟩ (.int .i64 0)).setCell ⟨w.heap.size + 1 + 1, 0, none⟩ (.int .i64 (splitL l).2)) (w.heap.size + 1) 3 (.int .i64 0) :=
    ((B1.out.kept (grownBy_setCell' _ _ _) (by simp)).set _).kept (grownBy_setCell' _ _ _) (by simp)
  have d2 : Boxed (((w2.setCell ⟨w.heap.size, 0, none⟩ (.slice none 0 0)).setCell ⟨w.heap.size + 1, 0, none⟩ (.int .i64 0)).setCell ⟨w.heap.size + 1 + 1, 0, none⟩ (.int .i64 (splitL l).2)) (w.heap.size + 1 + 1) 25 (.int .i64 (splitL l).2) :=
    ((B2.out.kept (grownBy_setCell' _ _ _) (by simp; omega)).kept (grownBy_setCell' _ _ _) (by simp)).set _
  refine bodyPost_ret (results19 _ _ _ _ _ none 0 0 0 (splitL l).2 rfl rfl rfl d0.cell d1.cell d2.cell) rfl ?_
  unfold ParseOut
  rw [HP.out]
  refine ⟨_, rfl, regs_nil _ _, ?_⟩
  exact ((HB2.out.setCell (p := ⟨w.heap.size, 0, none⟩) (Nat.le_refl _) _).setCell (p := ⟨w.heap.size + 1, 0, none⟩) (by simp) _).setCell (p := ⟨w.heap.size + 1 + 1, 0, none⟩) (by simp; omega) _
end Go.Proofs.YtbdekdhdkdjejaaDoor
namespace Go.Proofs.YtbdekdhdkdjejaaDoor
open Go.RowKit Go.Shelf

/-- Between two rounds: the parser's state is that of the lines read. -/
structure ParseI (w2 : World) (pre : List (List UInt8 × Nat)) (V : World) : Prop where
  run : (runL s0 0 (pre.map Prod.fst)).2 = 0
  st : PInv (w2.heap.size + 1 + 1 + 1) w2.heap.size (runL s0 0 (pre.map Prod.fst)).1 V
  pp : Boxed V (w2.heap.size + 1) 49 (.pointer (some ⟨w2.heap.size, 0, none⟩))
  low : Below w2.heap.size w2 V
/-- A line has been refused. -/
def ParseX (l : List UInt8) (w : World) (c : Code) (_ : List (List UInt8 × Nat)) (V : World) : Prop :=
  c = .ret ∧ ∃ k : Nat, parseL l = ([], k, 3) ∧ Boxed V w.heap.size 22 (.slice none 0 0) ∧ Boxed V (w.heap.size + 1) 3 (.int .i64 (k : Int)) ∧ Boxed V (w.heap.size + 1 + 1) 25 (.int .i64 3) ∧ Below w.heap.size w V

theorem boxed_grown {A Z : World} {b : Nat} {t : TypeId} {v : Value} {row : Option Nat} (h : Boxed A b t v) (hg : A.grownBy Z row) (hr : ∀ k, row = some k → ∃ o : Obj, A.heap[k]? = some o ∧ o.isCells = false) : Boxed Z b t v := by
  refine h.kept hg (fun e => ?_)
  obtain ⟨o, ho, hc⟩ := hr b e.symm
  have h2 : A.heap[b]? = some (.cells #[v] t) := h
  rw [h2] at ho
  cases ho
  cases hc
theorem ParseI.grown {w2 A Z : World} {pre : List (List UInt8 × Nat)} {row : Option Nat} (h : ParseI w2 pre A) (hg : A.grownBy Z row) (hr : ∀ k, row = some k → w2.heap.size ≤ k ∧ ∃ o : Obj, A.heap[k]? = some o ∧ o.isCells = false) : ParseI w2 pre Z :=
  ⟨h.run, h.st.grown hg (fun k e => (hr k e).2), boxed_grown h.pp hg (fun k e => (hr k e).2), h.low.grown hg h.low.size (fun k e => (hr k e).1)⟩
theorem parseI_own (w2 : World) (D : Nat) (hD : w2.heap.size ≤ D) : OwnFrom D (ParseI w2) := fun _ _ _ _ h hg hr => h.grown hg (fun k e => ⟨Nat.le_trans hD (hr k e).1, (hr k e).2⟩)
theorem parseI_out (w2 : World) : Outlives (fun _ => False) (ParseI w2) := fun _ _ _ _ h hg hr => h.grown hg (fun k e => (hr k e).elim)
theorem ParseX.grown {l : List UInt8} {w A Z : World} {c : Code} {pre : List (List UInt8 × Nat)} {row : Option Nat} (h : ParseX l w c pre A) (hg : A.grownBy Z row) (hr : ∀ k, row = some k → w.heap.size ≤ k ∧ ∃ o : Obj, A.heap[k]? = some o ∧ o.isCells = false) : ParseX l w c pre Z := by
  obtain ⟨h0, k, h1, h2, h3, h4, h5⟩ := h
  have hr2 := fun k e => (hr k e).2
  exact ⟨h0, k, h1, boxed_grown h2 hg hr2, boxed_grown h3 hg hr2, boxed_grown h4 hg hr2, h5.grown hg h5.size (fun k e => (hr k e).1)⟩
theorem parseX_own (l : List UInt8) (w : World) (D : Nat) (hD : w.heap.size ≤ D) (c : Code) : OwnFrom D (ParseX l w c) := fun _ _ _ _ h hg hr => h.grown hg (fun k e => ⟨Nat.le_trans hD (hr k e).1, (hr k e).2⟩)
theorem parseX_out (l : List UInt8) (w : World) (c : Code) : Outlives (fun _ => False) (ParseX l w c) := fun _ _ _ _ h hg hr => h.grown hg (fun k e => (hr k e).elim)

theorem zip_at {xs : List (List UInt8)} {pre : List (List UInt8 × Nat)} {x : List UInt8 × Nat} (h : pre ++ [x] <+: xs.zipIdx) : x.2 = pre.length ∧ pre.map Prod.fst ++ [x.1] = xs.take (pre.length + 1) ∧ pre.length < xs.length := by
  have hlen : pre.length + 1 ≤ xs.length := by have := h.length_le; simpa using this
  have e := List.prefix_iff_eq_take.1 h
  rw [List.length_append, List.length_singleton, zip_succ (show pre.length < xs.length by omega)] at e
  have e2 := List.append_inj e (by simp; omega)
  have e3 : x = (xs[pre.length], pre.length) := by simpa using e2.2
  refine ⟨by rw [e3], ?_, by omega⟩
  have e1 : pre.map Prod.fst = xs.take pre.length := by
    rw [e2.1, List.map_take]
    have : List.map Prod.fst xs.zipIdx = xs := by simp
    rw [this]
    simp
  rw [e1, e3, List.take_succ_eq_append_getElem (by omega)]
/-- A refused line ends the parse. -/
theorem parse_refused {l : List UInt8} {pre : List (List UInt8 × Nat)} {x : List UInt8 × Nat} (h0 : (splitL l).2 = 0) (hp : pre ++ [x] <+: (splitL l).1.zipIdx) (hr : (runL s0 0 (pre.map Prod.fst)).2 = 0)
    (hs : stepS (runL s0 0 (pre.map Prod.fst)).1 x.1 = none) : parseL l = ([], x.2 + 1, 3) := by
  obtain ⟨h1, h2, h3⟩ := zip_at hp
  have e : runL s0 0 (pre.map Prod.fst ++ [x.1]) = ((runL s0 0 (pre.map Prod.fst)).1, x.2 + 1) := by
    rw [run_snoc hr, hs, h1]
    simp
  have e2 : (splitL l).1 = (pre.map Prod.fst ++ [x.1]) ++ (splitL l).1.drop (pre.length + 1) := by rw [h2, List.take_append_drop]
  have e3 : runL s0 0 (splitL l).1 = ((runL s0 0 (pre.map Prod.fst)).1, x.2 + 1) := by
    rw [e2, run_stop (by rw [e]; simp), e]
  unfold parseL
  rw [if_pos h0, e3]
  simp
theorem runI_snoc {pre : List (List UInt8 × Nat)} {x : List UInt8 × Nat} {t : PS} (hr : (runL s0 0 (pre.map Prod.fst)).2 = 0) (hs : stepS (runL s0 0 (pre.map Prod.fst)).1 x.1 = some t) : runL s0 0 ((pre ++ [x]).map Prod.fst) = (t, 0) := by
  rw [List.map_append, List.map_singleton, run_snoc hr, hs]
theorem runI_sz (pre : List (List UInt8 × Nat)) : szS (runL s0 0 (pre.map Prod.fst)).1 ≤ pre.length := by
  have := run_sz (s := s0) (n := 0) (a := pre.map Prod.fst)
  simpa [szS, s0] using this
theorem split_bounds {l : List UInt8} (h : (splitL l).2 = 0) : (splitL l).1.length ≤ 2000 ∧ ∀ x ∈ (splitL l).1, x.length ≤ 1000 := by
  refine ⟨?_, fun x hx => (split_good h x hx).1⟩
  have ht : isTextL l = true := by unfold isTextL; simpa using h
  obtain ⟨h1, h2, h3, h4, h5, h6⟩ := text_parts ht
  rw [h6]
  exact h5

/-- One step of the parser keeps what holds between two rounds. -/
theorem ParseI.step {w2 A Z : World} {pre : List (List UInt8 × Nat)} {x : List UInt8 × Nat} {t : PS} (h : ParseI w2 pre A) (hs : stepS (runL s0 0 (pre.map Prod.fst)).1 x.1 = some t)
    (hp : PInv (w2.heap.size + 1 + 1 + 1) w2.heap.size t Z) (hf : FB (w2.heap.size + 1 + 1 + 1) w2.heap.size A Z) : ParseI w2 (pre ++ [x]) Z := by
  have e := runI_snoc h.run hs
  refine ⟨by rw [e], by rw [e]; exact hp, ?_, ?_⟩
  · exact (hf.block (w2.heap.size + 1) (by omega) (by omega)).trans h.pp
  · exact ⟨hf.os.trans h.low.os, hf.tape.trans h.low.tape, hf.output.trans h.low.output, Nat.le_trans h.low.size hf.size, fun k hk => (hf.block k (by omega) (by omega)).trans (h.low.block k hk)⟩
theorem ParseI.start {w2 : World} {a : Option Addr} {n c : Nat} : ParseI w2 [] (((w2.alloc (.cells #[.slice none 0 0, .slice none 0 0, .slice none 0 0, .slice none 0 0, .func (.func 41) #[.pointer (some ⟨w2.heap.size, 0, none⟩)] #[]] 51)).alloc
    (.cells #[.pointer (some ⟨w2.heap.size, 0, none⟩)] 49)).alloc (.cells #[.slice a n c] 35)) := by
  have b1 : Boxed (((w2.alloc (.cells #[.slice none 0 0, .slice none 0 0, .slice none 0 0, .slice none 0 0, .func (.func 41) #[.pointer (some ⟨w2.heap.size, 0, none⟩)] #[]] 51)).alloc
    (.cells #[.pointer (some ⟨w2.heap.size, 0, none⟩)] 49)).alloc (.cells #[.slice a n c] 35)) (w2.heap.size + 1) 49 (.pointer (some ⟨w2.heap.size, 0, none⟩)) := by
    have := (Boxed.new (w2.alloc (.cells #[.slice none 0 0, .slice none 0 0, .slice none 0 0, .slice none 0 0, .func (.func 41) #[.pointer (some ⟨w2.heap.size, 0, none⟩)] #[]] 51)) 49 (.pointer (some ⟨w2.heap.size, 0, none⟩))).alloc (.cells #[.slice a n c] 35)
    simpa using this
  refine ⟨rfl, ?_, b1, (((Below.refl _ w2).alloc (Nat.le_refl _) _).alloc (by simp) _).alloc (by simp; omega) _⟩
  refine ⟨fun _ => False, .slice none 0 0, .slice none 0 0, .slice none 0 0, .slice none 0 0, [], [], ?_⟩
  exact {
    lt := by omega
    le := by simp
    row := (Below.heap_alloc _ _ _ (by simp; omega)).trans ((Below.heap_alloc _ _ _ (by simp)).trans (heap_alloc_new w2 _))
    out := World.ownsRow_nil _ _ _ _
    ulen := rfl
    regs := fun i hi => absurd hi (Nat.not_lt_zero _)
    lines := Owns.nil _ _
    sides := World.ownsRow_nil _ _ _ _
    slen := rfl
    strs := fun i hi => absurd hi (Nat.not_lt_zero _)
    side := Owns.nil _ _
    apart := ⟨fun b hb => hb.elim, fun b hb => hb.elim, fun b hb => hb.elim, fun b hb => hb.elim, fun b hb => hb.elim, fun b hb => hb.elim⟩
    nil1 := fun _ => rfl
    nil2 := fun _ => ⟨rfl, rfl⟩ }

theorem regVals_get (us : List (Bool × Value × Value)) (i : Nat) (hi : i < us.length) : (regVals us)[i * 3]? = some (.bool us[i].1) ∧ (regVals us)[i * 3 + 1]? = some us[i].2.1 ∧ (regVals us)[i * 3 + 2]? = some us[i].2.2 := by
  induction us generalizing i with
  | nil => simp at hi
  | cons u r ih =>
    have e : regVals (u :: r) = .bool u.1 :: u.2.1 :: u.2.2 :: regVals r := by unfold regVals; simp
    rw [e]
    cases i with
    | zero => exact ⟨rfl, rfl, rfl⟩
    | succ i =>
      have := ih i (by simpa using hi)
      rw [show (i + 1) * 3 = i * 3 + 3 from by omega]
      simpa using this
/-- The regions that have been put out read as they are. -/
theorem regs_of_state {base pb : Nat} {s : PS} {w : World} {φ : Nat → Prop} {vo vl vs vd : Value} {us : List (Bool × Value × Value)} {ss : List Value} (h : PState base pb s w φ vo vl vs vd us ss) : Regs (fun b => pb < b ∧ ∃ cs t, w.heap[b]? = some (Obj.cells cs t (0, 0))) w vo s.out := by
  obtain ⟨h1, h2⟩ := id h.out
  rcases h2 with ⟨rfl, h2⟩ | ⟨g, cap, cur, rfl, hb, hg, hc, hm, hs1, ht⟩
  · have : s.out = [] := List.eq_nil_of_length_eq_zero (by rw [← h.ulen]; exact h2)
    rw [this]
    exact regs_nil _ _
  · refine ⟨some ⟨g, 0, none⟩, cap, by rw [h.ulen], by rw [← h.ulen]; exact hc, hm, fun b hb2 => ?_, fun e => (by cases e), fun i hi => ?_⟩
    · obtain rfl : g = b := by simpa [Value.ownBlock] using hb2
      have := h.lt
      exact ⟨by omega, cur, 41, hg⟩
    · have hi' : i < us.length := by rw [h.ulen]; exact hi
      obtain ⟨v0, v1, v2⟩ := regVals_get us i hi'
      obtain ⟨e0, e1, e2⟩ := h.regs i hi' hi
      refine ⟨g, 0, us[i].2.1, us[i].2.2, rfl, (Array.getElem?_eq_some_iff.1 hg).1, ?_, ?_, ?_, e1.mono (fun b hb3 => ⟨h.apart.gt b hb3, h.apart.cells b hb3⟩), e2.mono (fun b hb3 => ⟨h.apart.gt b hb3, h.apart.cells b hb3⟩)⟩
      · have := World.ownsRow.cells h.out (g := g) rfl _ _ v0
        rw [addr_add, e0] at this
        exact this
      · have := World.ownsRow.cells h.out (g := g) rfl _ _ v1
        rw [addr_add] at this
        rw [Nat.add_assoc]
        exact this
      · have := World.ownsRow.cells h.out (g := g) rfl _ _ v2
        rw [addr_add] at this
        rw [Nat.add_assoc]
        exact this
end Go.Proofs.YtbdekdhdkdjejaaDoor
namespace Go.Proofs.YtbdekdhdkdjejaaDoor
open Go.RowKit Go.Shelf
attribute [local go_sem] Oper.semAt_some

set_option maxHeartbeats 400000 in
theorem numbered_box (n : Nat) (a : Option Addr) (m c : Nat) (w : World) :
    CallsIn Fence.wide n Tryd.prog 42 #[.slice a m c] w fun e w' => e = .returned (.func (.func 64) #[] #[.pointer (some ⟨w.heap.size, 0, none⟩)]) ∧ w' = w.alloc (.cells #[.slice a m c] 35) := by
  refine callsIn_of_wp Tryd.func42 rfl trivial ?_ rfl
  simp only [Tryd.ntmps42, List.size_toArray, List.length_cons, List.length_nil, Nat.reduceAdd, Nat.reduceSub, Array.replicate_succ, Array.replicate_zero, List.push_toArray, List.append_toArray, List.nil_append, List.cons_append]
  gi_wp2
  go_ret
  exact ⟨rfl, rfl⟩

set_option maxRecDepth 100000 in
set_option maxHeartbeats 2000000 in
theorem parse_main (l : List UInt8) (w : World) (h : (splitL l).2 = 0) : Calls Tryd.prog 19 #[.string (B l)] w (ParseOut l w) := by
  have hb : (((splitL l).2 : Int) != 0) = false := by simp [h]
  have HS := Lib.hid h
  clear h
  have b0 := ((Boxed.new w 22 (.slice none 0 0)).alloc (.cells #[.int .i64 0] 3)).alloc (.cells #[.int .i64 0] 25)
  have b1 := (Boxed.new (w.alloc (.cells #[.slice none 0 0] 22)) 3 (.int .i64 0)).alloc (.cells #[.int .i64 0] 25)
  have b2 := Boxed.new ((w.alloc (.cells #[.slice none 0 0] 22)).alloc (.cells #[.int .i64 0] 3)) 25 (.int .i64 0)
  simp only [World.size_alloc] at b1 b2
  have HB := Lib.hid (show Below w.heap.size w (((w.alloc (.cells #[.slice none 0 0] 22)).alloc (.cells #[.int .i64 0] 3)).alloc (.cells #[.int .i64 0] 25)) from (((Below.refl _ w).alloc (Nat.le_refl _) _).alloc (by simp) _).alloc (by simp; omega) _)
  refine (callsIn_wide (n := 10)).1 ?_
  refine callsIn_of_wp_marks Tryd.func19 rfl trivial ?_ rfl
  simp only [Tryd.ntmps19, List.size_toArray, List.length_cons, List.length_nil, Nat.reduceAdd, Nat.reduceSub, Array.replicate_succ, Array.replicate_zero, List.push_toArray, List.append_toArray, List.nil_append, List.cons_append]
  gi_wp2_with fail
  refine ⟨trivial, ?_⟩
  refine (callsIn_wide.2 (split_any _ _)).mono ?_
  rintro e w2 ⟨v2, rfl, hs2, hb2⟩
  have B0 := Lib.hid (boxed_below b0 hb2)
  have B1 := Lib.hid (boxed_below b1 hb2)
  have B2 := Lib.hid (boxed_below b2 hb2)
  have HB2 := Lib.hid (HB.out.trans (hb2.mono HB.out.size))
  have HZ := Lib.hid (show w.heap.size + 3 ≤ w2.heap.size from by have := hb2.size; simp at this; omega)
  clear b0 b1 b2 HB hb2
  obtain ⟨va, vc, rfl⟩ := hs2.slice
  gi_wp2_with (refine ⟨trivial, ?_⟩; gi_at_call 42; refine (numbered_box _ _ _ _ _).mono ?_; rintro e w' ⟨rfl, rfl⟩)
  have bS := Boxed.new ((w2.alloc (.cells #[.slice none 0 0, .slice none 0 0, .slice none 0 0, .slice none 0 0, .func (.func 41) #[.pointer (some ⟨w2.heap.size, 0, none⟩)] #[]] 51)).alloc (.cells #[.pointer (some ⟨w2.heap.size, 0, none⟩)] 49)) 35 (.slice va (splitL l).1.length vc)
  simp only [World.size_alloc] at bS
  have hbd := split_bounds HS.out
  have hI0 := ParseI.start (w2 := w2) (a := va) (n := (splitL l).1.length) (c := vc)
  have hszl : (((w2.alloc (.cells #[.slice none 0 0, .slice none 0 0, .slice none 0 0, .slice none 0 0, .func (.func 41) #[.pointer (some ⟨w2.heap.size, 0, none⟩)] #[]] 51)).alloc
    (.cells #[.pointer (some ⟨w2.heap.size, 0, none⟩)] 49)).alloc (.cells #[.slice va (splitL l).1.length vc] 35)).heap.size = w2.heap.size + 1 + 1 + 1 := by simp
  generalize hWL : (((w2.alloc (.cells #[.slice none 0 0, .slice none 0 0, .slice none 0 0, .slice none 0 0, .func (.func 41) #[.pointer (some ⟨w2.heap.size, 0, none⟩)] #[]] 51)).alloc
    (.cells #[.pointer (some ⟨w2.heap.size, 0, none⟩)] 49)).alloc (.cells #[.slice va (splitL l).1.length vc] 35)) = WL at bS hI0 hszl ⊢
  clear hWL
  have HSZ := Lib.hid hszl
  have HBD := Lib.hid hbd
  clear hszl hbd
  have hsL := hs2.below hI0.low
  refine iter_law rfl (by omega) (gf := 64) (lb := #[.pointer (some ⟨w2.heap.size + 1 + 1, 0, none⟩)]) rfl trivial (enters_of Tryd.func64 (by kernel_rfl) rfl)
    (num_iter _ (w2.heap.size + 1 + 1) va vc (splitL l).1 _ hsL bS (by have := HBD.out.1; omega)) (fun k hk => hk.elim) (fun h k hs => k (h hs)) ?hkb (fun _ => rfl)
    (ParseI w2) (ParseX l w) (parseI_own w2 _ (by rw [HSZ.out]; omega)) (parseX_own l w _ (by rw [HSZ.out]; have := HZ.out; omega)) (parseI_out w2) (parseX_out l w) hI0 ?a1 ?assign ?body ?done ?stop
  case assign =>
    intro l0 x W K hK
    dsimp only [numEnc]
    gi_wp2
    exact hK
  case hkb =>
    intro V r r' hk hs
    exact hs.put hk.loopAt rfl
  case body =>
    rintro l0 pre x V hI hpart
    obtain ⟨hx1, hx2, hx3⟩ := zip_at hpart
    have hxl : x.1.length ≤ 1000000 := by
      have hm : x.1 ∈ (splitL l).1.take (pre.length + 1) := by rw [← hx2]; simp
      have := HBD.out.2 _ (List.mem_of_mem_take hm)
      omega
    have hsz : szS (runL s0 0 (pre.map Prod.fst)).1 ≤ 100000 := by
      have := runI_sz pre
      have := HBD.out.1
      omega
    obtain ⟨φ, vo, vl, vs, vd, us, ss, P⟩ := id hI.st
    have n4 := cell_of_row V w2.heap.size 4 _ _ _ P.row
    simp only [List.getElem?_toArray, List.getElem?_cons_succ, List.getElem?_cons_zero] at n4
    have hpc := hI.pp.cell
    have HZV := Lib.hid (show w2.heap.size ≤ V.heap.size from hI.low.size)
    have C0 := Lib.hid (boxed_below B0.out hI.low)
    have C1 := Lib.hid (boxed_below B1.out hI.low)
    have C2 := Lib.hid (boxed_below B2.out hI.low)
    have f0 := C0.out.frozen
    have f1 := C1.out.frozen
    have f2 := C2.out.frozen
    have HI := Lib.hid hI
    have HP := Lib.hid hpart
    clear hI hpart P hx1 hx2 hx3
    have HXL := Lib.hid hxl
    have HSL := Lib.hid hsz
    clear hxl hsz
    have hdone : ∀ (e : Ending) (V1 : World) (t : PS), stepS (runL s0 0 (pre.map Prod.fst)).1 x.1 = some t → PInv (w2.heap.size + 1 + 1 + 1) w2.heap.size t V1 → FB (w2.heap.size + 1 + 1 + 1) w2.heap.size V V1 →
        KeepsFrom WL.heap.size V V1 ∧ keepStrs (.slice va (splitL l).1.length vc) (splitL l).1 V V1 ∧ ParseI w2 (pre ++ [x]) V1 := by
      intro _ V1 t hs hp hf
      have := HI.out.step hs hp hf
      exact ⟨⟨hf.size, fun k o _ hk ho => hf.others k o hk ho⟩, fun _ => hs2.below this.low, this⟩
    have hstop : stepS (runL s0 0 (pre.map Prod.fst)).1 x.1 = none → KeepsFrom WL.heap.size V (((V.setCell ⟨w.heap.size, 0, none⟩ (.slice none 0 0)).setCell ⟨w.heap.size + 1, 0, none⟩ (.int .i64 ((x.2 : Int) + 1))).setCell ⟨w.heap.size + 1 + 1, 0, none⟩ (.int .i64 3)) ∧
        ParseX l w .ret (pre ++ [x]) (((V.setCell ⟨w.heap.size, 0, none⟩ (.slice none 0 0)).setCell ⟨w.heap.size + 1, 0, none⟩ (.int .i64 ((x.2 : Int) + 1))).setCell ⟨w.heap.size + 1 + 1, 0, none⟩ (.int .i64 3)) := by
      intro hs
      have d0 : Boxed (((V.setCell ⟨w.heap.size, 0, none⟩ (.slice none 0 0)).setCell ⟨w.heap.size + 1, 0, none⟩ (.int .i64 ((x.2 : Int) + 1))).setCell ⟨w.heap.size + 1 + 1, 0, none⟩ (.int .i64 3)) w.heap.size 22 (.slice none 0 0) :=
        (((C0.out.set _).kept (grownBy_setCell' _ _ _) (by simp)).kept (grownBy_setCell' _ _ _) (by simp; omega))
      have d1 : Boxed (((V.setCell ⟨w.heap.size, 0, none⟩ (.slice none 0 0)).setCell ⟨w.heap.size + 1, 0, none⟩ (.int .i64 ((x.2 : Int) + 1))).setCell ⟨w.heap.size + 1 + 1, 0, none⟩ (.int .i64 3)) (w.heap.size + 1) 3 (.int .i64 ((x.2 : Int) + 1)) :=
        ((C1.out.kept (grownBy_setCell' _ _ _) (by simp)).set _).kept (grownBy_setCell' _ _ _) (by simp)
      have d2 : Boxed (((V.setCell ⟨w.heap.size, 0, none⟩ (.slice none 0 0)).setCell ⟨w.heap.size + 1, 0, none⟩ (.int .i64 ((x.2 : Int) + 1))).setCell ⟨w.heap.size + 1 + 1, 0, none⟩ (.int .i64 3)) (w.heap.size + 1 + 1) 25 (.int .i64 3) :=
        ((C2.out.kept (grownBy_setCell' _ _ _) (by simp; omega)).kept (grownBy_setCell' _ _ _) (by simp)).set _
      refine ⟨((((KeepsOthers.setCell _ _ _).trans (KeepsOthers.setCell _ _ _)).trans (KeepsOthers.setCell _ _ _))).from _, rfl, x.2 + 1, parse_refused HS.out HP.out HI.out.run hs, d0, by simpa using d1, d2, ?_⟩
      exact (((HB2.out.trans (HI.out.low.mono HB2.out.size)).setCell (p := ⟨w.heap.size, 0, none⟩) (Nat.le_refl _) _).setCell (p := ⟨w.heap.size + 1, 0, none⟩) (by simp) _).setCell (p := ⟨w.heap.size + 1 + 1, 0, none⟩) (by simp; omega) _
    have HDN := Lib.hid hdone
    have HSP := Lib.hid hstop
    clear hdone hstop
    cases hi : (runL s0 0 (pre.map Prod.fst)).1.ins
    · rw [hi] at n4
      have HIN := Lib.hid hi
      clear hi
      simp only [stateV, Bool.false_eq_true, ↓reduceIte] at n4
      gi_wp2_with fail
      refine ⟨trivial, ?_⟩
      refine (callsIn_wide.2 (outside_any _ _ _ _ _ HI.out.st HIN.out HXL.out HSL.out)).mono ?_
      rintro e V1 (⟨t, hs, rfl, hp, hf⟩ | ⟨hs, rfl, rfl⟩)
      · have HD := Lib.hid (HDN.out (.returned (.bool true)) V1 t hs hp hf)
        clear hs hp hf
        gi_wp2
        exact HD.out
      · have HD := Lib.hid (HSP.out hs)
        have c0 := C0.out.cell
        have c1 := C1.out.cell
        have c2 := C2.out.cell
        clear hs
        gi_wp2
        exact HD.out
    · rw [hi] at n4
      have HIN := Lib.hid hi
      clear hi
      simp only [stateV, ↓reduceIte] at n4
      gi_wp2_with fail
      refine ⟨trivial, ?_⟩
      refine (callsIn_wide.2 (inside_any _ _ _ _ _ HI.out.st HIN.out HXL.out HSL.out)).mono ?_
      rintro e V1 (⟨t, hs, rfl, hp, hf⟩ | ⟨hs, rfl, rfl⟩)
      · have HD := Lib.hid (HDN.out (.returned (.bool true)) V1 t hs hp hf)
        clear hs hp hf
        gi_wp2
        exact HD.out
      · have HD := Lib.hid (HSP.out hs)
        have c0 := C0.out.cell
        have c1 := C1.out.cell
        have c2 := C2.out.cell
        clear hs
        gi_wp2
        exact HD.out
  case done =>
    rintro ys W rfl hI hK
    have hmap : (splitL l).1.zipIdx.map Prod.fst = (splitL l).1 := by simp
    have hrun := hI.run
    have hst := hI.st
    rw [hmap] at hrun hst
    have hlast := run_last _ hrun
    have hsz : szS (runL s0 0 (splitL l).1).1 ≤ 100000 := by
      have h1 := run_sz (s := s0) (n := 0) (a := (splitL l).1)
      have h2 : szS s0 = 0 := rfl
      have := HBD.out.1
      omega
    have hparse : parseL l = endL (splitL l).1.length (runL s0 0 (splitL l).1).1 := by
      unfold parseL
      rw [if_pos HS.out, if_pos hrun]
    generalize (runL s0 0 (splitL l).1).1 = s at hst hlast hsz hparse
    obtain ⟨φ, vo, vl, vs, vd, us, ss, P⟩ := id hst
    obtain ⟨a2, k2, rfl⟩ := row_slice P.sides
    obtain ⟨a3, k3, rfl⟩ := P.side.strs.slice
    have n2 := cell_of_row W w2.heap.size 2 _ _ _ P.row
    have n3 := cell_of_row W w2.heap.size 3 _ _ _ P.row
    simp only [List.getElem?_toArray, List.getElem?_cons_succ, List.getElem?_cons_zero] at n2 n3
    have hsl := P.slen
    have hpc := hI.pp.cell
    have C0 := Lib.hid (boxed_below B0.out hI.low)
    have C1 := Lib.hid (boxed_below B1.out hI.low)
    have C2 := Lib.hid (boxed_below B2.out hI.low)
    have c0 := C0.out.cell
    have f0 := C0.out.frozen
    have c1 := C1.out.cell
    have f1 := C1.out.frozen
    have c2 := C2.out.cell
    have f2 := C2.out.frozen
    have HBW := Lib.hid (HB2.out.trans (hI.low.mono HB2.out.size))
    have HSTR := Lib.hid (hs2.below hI.low)
    have HI := Lib.hid hI
    have HK := Lib.hid hK
    have HST := Lib.hid hst
    have HPP := Lib.hid P
    have hbig : (splitL l).1.length ≤ 2000 := HBD.out.1
    have hD : WL.heap.size ≠ w.heap.size ∧ WL.heap.size ≠ w.heap.size + 1 ∧ WL.heap.size ≠ w.heap.size + 1 + 1 := by rw [HSZ.out]; have := HZ.out; omega
    -- a refused end
    have herr : s.ins = true → (((W.setCell ⟨w.heap.size, 0, none⟩ (.slice none 0 0)).setCell ⟨w.heap.size + 1, 0, none⟩ (.int .i64 (((splitL l).1.length : Int) + 1))).setCell ⟨w.heap.size + 1 + 1, 0, none⟩ (.int .i64 3)).heap[WL.heap.size]? = some (.deferred (some [])) ∧
        ∀ tmps : Array Value, tmps[2]?.getD undef = .pointer (some ⟨w.heap.size, 0, none⟩) → tmps[3]?.getD undef = .pointer (some ⟨w.heap.size + 1, 0, none⟩) → tmps[4]?.getD undef = .pointer (some ⟨w.heap.size + 1 + 1, 0, none⟩) →
        ∃ v, (results Tryd.f19 tmps).run Tryd.prog ((((W.setCell ⟨w.heap.size, 0, none⟩ (.slice none 0 0)).setCell ⟨w.heap.size + 1, 0, none⟩ (.int .i64 (((splitL l).1.length : Int) + 1))).setCell ⟨w.heap.size + 1 + 1, 0, none⟩ (.int .i64 3)).putObj WL.heap.size (.deferred none)) =
          .ok v ((((W.setCell ⟨w.heap.size, 0, none⟩ (.slice none 0 0)).setCell ⟨w.heap.size + 1, 0, none⟩ (.int .i64 (((splitL l).1.length : Int) + 1))).setCell ⟨w.heap.size + 1 + 1, 0, none⟩ (.int .i64 3)).putObj WL.heap.size (.deferred none)) ∧
          ParseOut l w (.returned v) ((((W.setCell ⟨w.heap.size, 0, none⟩ (.slice none 0 0)).setCell ⟨w.heap.size + 1, 0, none⟩ (.int .i64 (((splitL l).1.length : Int) + 1))).setCell ⟨w.heap.size + 1 + 1, 0, none⟩ (.int .i64 3)).putObj WL.heap.size (.deferred none)) := by
      intro hi
      have d0 : Boxed (((W.setCell ⟨w.heap.size, 0, none⟩ (.slice none 0 0)).setCell ⟨w.heap.size + 1, 0, none⟩ (.int .i64 (((splitL l).1.length : Int) + 1))).setCell ⟨w.heap.size + 1 + 1, 0, none⟩ (.int .i64 3)) w.heap.size 22 (.slice none 0 0) :=
        (((C0.out.set _).kept (grownBy_setCell' _ _ _) (by simp)).kept (grownBy_setCell' _ _ _) (by simp; omega))
      have d1 : Boxed (((W.setCell ⟨w.heap.size, 0, none⟩ (.slice none 0 0)).setCell ⟨w.heap.size + 1, 0, none⟩ (.int .i64 (((splitL l).1.length : Int) + 1))).setCell ⟨w.heap.size + 1 + 1, 0, none⟩ (.int .i64 3)) (w.heap.size + 1) 3 (.int .i64 (((splitL l).1.length : Int) + 1)) :=
        ((C1.out.kept (grownBy_setCell' _ _ _) (by simp)).set _).kept (grownBy_setCell' _ _ _) (by simp)
      have d2 : Boxed (((W.setCell ⟨w.heap.size, 0, none⟩ (.slice none 0 0)).setCell ⟨w.heap.size + 1, 0, none⟩ (.int .i64 (((splitL l).1.length : Int) + 1))).setCell ⟨w.heap.size + 1 + 1, 0, none⟩ (.int .i64 3)) (w.heap.size + 1 + 1) 25 (.int .i64 3) :=
        ((C2.out.kept (grownBy_setCell' _ _ _) (by simp; omega)).kept (grownBy_setCell' _ _ _) (by simp)).set _
      have b3 : Below w.heap.size w (((W.setCell ⟨w.heap.size, 0, none⟩ (.slice none 0 0)).setCell ⟨w.heap.size + 1, 0, none⟩ (.int .i64 (((splitL l).1.length : Int) + 1))).setCell ⟨w.heap.size + 1 + 1, 0, none⟩ (.int .i64 3)) :=
        ((HBW.out.setCell (p := ⟨w.heap.size, 0, none⟩) (Nat.le_refl _) _).setCell (p := ⟨w.heap.size + 1, 0, none⟩) (by simp) _).setCell (p := ⟨w.heap.size + 1 + 1, 0, none⟩) (by simp; omega) _
      have hd : (((W.setCell ⟨w.heap.size, 0, none⟩ (.slice none 0 0)).setCell ⟨w.heap.size + 1, 0, none⟩ (.int .i64 (((splitL l).1.length : Int) + 1))).setCell ⟨w.heap.size + 1 + 1, 0, none⟩ (.int .i64 3)).heap[WL.heap.size]? = some (.deferred (some [])) :=
        ((heap_setCell_ne _ _ _ _ hD.2.2).trans ((heap_setCell_ne _ _ _ _ hD.2.1).trans (heap_setCell_ne _ _ _ _ hD.1))).trans HK.out
      refine ⟨hd, fun tmps t2 t3 t4 => ?_⟩
      refine ⟨_, results19 _ _ _ _ _ none 0 0 (((splitL l).1.length : Int) + 1) 3 t2 t3 t4 (Boxed.cell ((World.putObj_heap_other hD.1.symm).trans d0)) (Boxed.cell ((World.putObj_heap_other hD.2.1.symm).trans d1)) (Boxed.cell ((World.putObj_heap_other hD.2.2.symm).trans d2)), ?_⟩
      unfold ParseOut
      rw [hparse]
      unfold endL
      rw [if_pos hi]
      refine ⟨_, rfl, regs_nil _ _, b3.grown (grownBy_putObj' _ _ _) b3.size (fun k e => by cases e; rw [HSZ.out]; have := HZ.out; omega)⟩
    have HERR := Lib.hid herr
    have HLAST := Lib.hid hlast
    have HPARSE := Lib.hid hparse
    have HSL := Lib.hid hsl
    have HSZS := Lib.hid hsz
    clear herr hlast hparse hsl hsz hI hK hst P hrun
    have hun : ∀ b : Bool, (some undef = some (Value.bool b)) = False := by intro b; simp [undef]
    by_cases h1 : 0 < ss.length
    · have e1 : decide ((0 : Int) < (ss.length : Int)) = true := by simp; omega
      have hi : s.ins = true := by
        rw [HLAST.out]
        have : s.sides.isEmpty = false := by cases e : s.sides with
          | nil => have := HSL.out; rw [e] at this; simp only [List.length_nil] at this; omega
          | cons => rfl
        simp [this]
      have HE := Lib.hid (HERR.out hi)
      gi_wp2
      refine ⟨by simp, .inl ⟨_, _, rfl, run_takeDeferred HE.out.1, ?_⟩⟩
      exact HE.out.2 _ rfl rfl rfl
    · have e1 : ss.length = 0 := by omega
      rw [e1] at n2
      have hs0 : s.sides = [] := List.eq_nil_of_length_eq_zero (by have := HSL.out; omega)
      clear e1
      by_cases h2 : 0 < s.side.length
      · have hi : s.ins = true := by
          rw [HLAST.out]
          have : s.side.isEmpty = false := by cases e : s.side with
            | nil => rw [e] at h2; simp only [List.length_nil] at h2; omega
            | cons => rfl
          simp [this]
        have HE := Lib.hid (HERR.out hi)
        clear h1 hs0 hi
        gi_wp2
        refine ⟨by simp, .inl ⟨_, _, rfl, run_takeDeferred HE.out.1, ?_⟩⟩
        exact HE.out.2 _ rfl rfl rfl
      · have e2 : s.side.length = 0 := by omega
        rw [e2] at n3
        clear e2
        have hs1 : s.side = [] := List.eq_nil_of_length_eq_zero (by omega)
        have hi : s.ins = openEnd (splitL l).1 := by
          rw [HLAST.out, hs0, hs1]; simp
        have HIN := Lib.hid hi
        clear hi hs0 hs1 h1 h2
        by_cases h3 : 0 < (splitL l).1.length
        · obtain ⟨b, off, rfl, hcell⟩ := HSTR.out.elem (k := (splitL l).1.length - 1) (by omega)
          have hoe : openEnd (splitL l).1 = ((splitL l).1[(splitL l).1.length - 1] == opM) := by
            unfold openEnd
            rw [List.getLast?_eq_getElem?, List.getElem?_eq_getElem (by omega)]
          have HOE := Lib.hid hoe
          clear hoe
          gi_wp2
          · have h4 : ((splitL l).1[(splitL l).1.length - 1] == [60, 60, 60, 60, 60, 60, 60]) = true := by assumption
            have hi : s.ins = true := by rw [HIN.out, HOE.out]; exact h4
            have HE := Lib.hid (HERR.out hi)
            refine ⟨by simp, .inl ⟨_, _, rfl, run_takeDeferred HE.out.1, ?_⟩⟩
            exact HE.out.2 _ rfl rfl rfl
          · have h4 : ((splitL l).1[(splitL l).1.length - 1] == [60, 60, 60, 60, 60, 60, 60]) = false := by assumption
            have HI0 := Lib.hid (show s.ins = false from by rw [HIN.out, HOE.out]; exact h4)
            refine ⟨trivial, ?_⟩
            refine (callsIn_wide.2 (flush_any _ _ _ _ HST.out (by have := HSZS.out; unfold szS at this; omega))).mono ?_
            rintro e W1 ⟨⟨x, rfl⟩, ⟨φ1, vo1, vs1, vd1, us1, ss1, P1⟩, hf1⟩
            have HR := Lib.hid (regs_of_state P1)
            obtain ⟨ao, co, rfl⟩ := row_slice P1.out
            have m0 := cell_of_row W1 w2.heap.size 0 _ _ _ P1.row
            simp only [List.getElem?_toArray, List.getElem?_cons_zero] at m0
            have hpc1 : W1.cell? ⟨w2.heap.size + 1, 0, none⟩ = some (.pointer (some ⟨w2.heap.size, 0, none⟩)) := Boxed.cell ((hf1.block (w2.heap.size + 1) (by omega) (by omega)).trans HI.out.pp)
            have D0 := Lib.hid (show Boxed W1 w.heap.size 22 (.slice none 0 0) from (hf1.block w.heap.size (by have := HZ.out; omega) (by have := HZ.out; omega)).trans C0.out)
            have D1 := Lib.hid (show Boxed W1 (w.heap.size + 1) 3 (.int .i64 0) from (hf1.block (w.heap.size + 1) (by have := HZ.out; omega) (by have := HZ.out; omega)).trans C1.out)
            have D2 := Lib.hid (show Boxed W1 (w.heap.size + 1 + 1) 25 (.int .i64 0) from (hf1.block (w.heap.size + 1 + 1) (by have := HZ.out; omega) (by have := HZ.out; omega)).trans C2.out)
            have c0' := D0.out.cell
            have g0' := D0.out.frozen
            have c1' := D1.out.cell
            have g1' := D1.out.frozen
            have c2' := D2.out.cell
            have g2' := D2.out.frozen
            have HK1 := Lib.hid (show W1.heap[WL.heap.size]? = some (.deferred (some [])) from hf1.others _ _ HK.out rfl)
            have HB1 := Lib.hid (show Below w.heap.size w W1 from ⟨hf1.os.trans HBW.out.os, hf1.tape.trans HBW.out.tape, hf1.output.trans HBW.out.output, Nat.le_trans HBW.out.size hf1.size, fun k hk => (hf1.block k (by have := HZ.out; omega) (by have := HZ.out; omega)).trans (HBW.out.block k hk)⟩)
            clear P1 hf1 n2 n3 hpc c0 f0 c1 f1 c2 f2
            gi_wp2
            have k3' : (((W1.setCell ⟨w.heap.size, 0, none⟩ (.slice ao us1.length co)).setCell ⟨w.heap.size + 1, 0, none⟩ (.int .i64 0)).setCell ⟨w.heap.size + 1 + 1, 0, none⟩ (.int .i64 0)).heap[WL.heap.size]? = some (.deferred (some [])) :=
              ((heap_setCell_ne _ _ _ _ hD.2.2).trans ((heap_setCell_ne _ _ _ _ hD.2.1).trans (heap_setCell_ne _ _ _ _ hD.1))).trans HK1.out
            have d0 : Boxed (((W1.setCell ⟨w.heap.size, 0, none⟩ (.slice ao us1.length co)).setCell ⟨w.heap.size + 1, 0, none⟩ (.int .i64 0)).setCell ⟨w.heap.size + 1 + 1, 0, none⟩ (.int .i64 0)) w.heap.size 22 (.slice ao us1.length co) :=
              (((D0.out.set _).kept (grownBy_setCell' _ _ _) (by simp)).kept (grownBy_setCell' _ _ _) (by simp; omega))
            have d1 : Boxed (((W1.setCell ⟨w.heap.size, 0, none⟩ (.slice ao us1.length co)).setCell ⟨w.heap.size + 1, 0, none⟩ (.int .i64 0)).setCell ⟨w.heap.size + 1 + 1, 0, none⟩ (.int .i64 0)) (w.heap.size + 1) 3 (.int .i64 0) :=
              ((D1.out.kept (grownBy_setCell' _ _ _) (by simp)).set _).kept (grownBy_setCell' _ _ _) (by simp)
            have d2 : Boxed (((W1.setCell ⟨w.heap.size, 0, none⟩ (.slice ao us1.length co)).setCell ⟨w.heap.size + 1, 0, none⟩ (.int .i64 0)).setCell ⟨w.heap.size + 1 + 1, 0, none⟩ (.int .i64 0)) (w.heap.size + 1 + 1) 25 (.int .i64 0) :=
              ((D2.out.kept (grownBy_setCell' _ _ _) (by simp; omega)).kept (grownBy_setCell' _ _ _) (by simp)).set _
            have b3 : Below w.heap.size w (((W1.setCell ⟨w.heap.size, 0, none⟩ (.slice ao us1.length co)).setCell ⟨w.heap.size + 1, 0, none⟩ (.int .i64 0)).setCell ⟨w.heap.size + 1 + 1, 0, none⟩ (.int .i64 0)) :=
              ((HB1.out.setCell (p := ⟨w.heap.size, 0, none⟩) (Nat.le_refl _) _).setCell (p := ⟨w.heap.size + 1, 0, none⟩) (by simp) _).setCell (p := ⟨w.heap.size + 1 + 1, 0, none⟩) (by simp; omega) _
            have K : Keeps (fun b => w2.heap.size < b ∧ ∃ cs t, W1.heap[b]? = some (Obj.cells cs t (0, 0))) W1 ((((W1.setCell ⟨w.heap.size, 0, none⟩ (.slice ao us1.length co)).setCell ⟨w.heap.size + 1, 0, none⟩ (.int .i64 0)).setCell ⟨w.heap.size + 1 + 1, 0, none⟩ (.int .i64 0)).putObj WL.heap.size (.deferred none)) :=
              ⟨by simp, fun k _ hk => (World.putObj_heap_other (by
                rintro rfl
                obtain ⟨_, cs, t, hc⟩ := hk
                rw [HK1.out] at hc
                cases hc)).trans ((heap_setCell_ne _ _ _ _ (by have := hk.1; have := HZ.out; simp; omega)).trans ((heap_setCell_ne _ _ _ _ (by have := hk.1; have := HZ.out; simp; omega)).trans (heap_setCell_ne _ _ _ _ (by have := hk.1; have := HZ.out; simp; omega))))⟩
            refine ⟨by simp, .inl ⟨_, _, rfl, run_takeDeferred k3', ?_⟩⟩
            refine ⟨_, results19 _ _ _ _ _ ao us1.length co 0 0 rfl rfl rfl (Boxed.cell ((World.putObj_heap_other hD.1.symm).trans d0)) (Boxed.cell ((World.putObj_heap_other hD.2.1.symm).trans d1)) (Boxed.cell ((World.putObj_heap_other hD.2.2.symm).trans d2)), ?_⟩
            unfold ParseOut
            rw [HPARSE.out]
            unfold endL
            rw [if_neg (by rw [HI0.out]; simp)]
            exact ⟨_, rfl, (HR.out.keeps K).mono (fun _ _ => trivial), b3.grown (grownBy_putObj' _ _ _) b3.size (fun k e => by cases e; rw [HSZ.out]; have := HZ.out; omega)⟩
        · have hz : (splitL l).1.length = 0 := by omega
          have hx0 : openEnd (splitL l).1 = false := by rw [List.eq_nil_of_length_eq_zero hz]; rfl
          have HI0 := Lib.hid (show s.ins = false from by rw [HIN.out]; exact hx0)
          rw [hz]
          clear hx0 hz h3
          gi_wp2
          refine ⟨trivial, ?_⟩
          refine (callsIn_wide.2 (flush_any _ _ _ _ HST.out (by have := HSZS.out; unfold szS at this; omega))).mono ?_
          rintro e W1 ⟨⟨x, rfl⟩, ⟨φ1, vo1, vs1, vd1, us1, ss1, P1⟩, hf1⟩
          have HR := Lib.hid (regs_of_state P1)
          obtain ⟨ao, co, rfl⟩ := row_slice P1.out
          have m0 := cell_of_row W1 w2.heap.size 0 _ _ _ P1.row
          simp only [List.getElem?_toArray, List.getElem?_cons_zero] at m0
          have hpc1 : W1.cell? ⟨w2.heap.size + 1, 0, none⟩ = some (.pointer (some ⟨w2.heap.size, 0, none⟩)) := Boxed.cell ((hf1.block (w2.heap.size + 1) (by omega) (by omega)).trans HI.out.pp)
          have D0 := Lib.hid (show Boxed W1 w.heap.size 22 (.slice none 0 0) from (hf1.block w.heap.size (by have := HZ.out; omega) (by have := HZ.out; omega)).trans C0.out)
          have D1 := Lib.hid (show Boxed W1 (w.heap.size + 1) 3 (.int .i64 0) from (hf1.block (w.heap.size + 1) (by have := HZ.out; omega) (by have := HZ.out; omega)).trans C1.out)
          have D2 := Lib.hid (show Boxed W1 (w.heap.size + 1 + 1) 25 (.int .i64 0) from (hf1.block (w.heap.size + 1 + 1) (by have := HZ.out; omega) (by have := HZ.out; omega)).trans C2.out)
          have c0' := D0.out.cell
          have g0' := D0.out.frozen
          have c1' := D1.out.cell
          have g1' := D1.out.frozen
          have c2' := D2.out.cell
          have g2' := D2.out.frozen
          have HK1 := Lib.hid (show W1.heap[WL.heap.size]? = some (.deferred (some [])) from hf1.others _ _ HK.out rfl)
          have HB1 := Lib.hid (show Below w.heap.size w W1 from ⟨hf1.os.trans HBW.out.os, hf1.tape.trans HBW.out.tape, hf1.output.trans HBW.out.output, Nat.le_trans HBW.out.size hf1.size, fun k hk => (hf1.block k (by have := HZ.out; omega) (by have := HZ.out; omega)).trans (HBW.out.block k hk)⟩)
          clear P1 hf1 n2 n3 hpc c0 f0 c1 f1 c2 f2
          gi_wp2
          have k3' : (((W1.setCell ⟨w.heap.size, 0, none⟩ (.slice ao us1.length co)).setCell ⟨w.heap.size + 1, 0, none⟩ (.int .i64 0)).setCell ⟨w.heap.size + 1 + 1, 0, none⟩ (.int .i64 0)).heap[WL.heap.size]? = some (.deferred (some [])) :=
            ((heap_setCell_ne _ _ _ _ hD.2.2).trans ((heap_setCell_ne _ _ _ _ hD.2.1).trans (heap_setCell_ne _ _ _ _ hD.1))).trans HK1.out
          have d0 : Boxed (((W1.setCell ⟨w.heap.size, 0, none⟩ (.slice ao us1.length co)).setCell ⟨w.heap.size + 1, 0, none⟩ (.int .i64 0)).setCell ⟨w.heap.size + 1 + 1, 0, none⟩ (.int .i64 0)) w.heap.size 22 (.slice ao us1.length co) :=
            (((D0.out.set _).kept (grownBy_setCell' _ _ _) (by simp)).kept (grownBy_setCell' _ _ _) (by simp; omega))
          have d1 : Boxed (((W1.setCell ⟨w.heap.size, 0, none⟩ (.slice ao us1.length co)).setCell ⟨w.heap.size + 1, 0, none⟩ (.int .i64 0)).setCell ⟨w.heap.size + 1 + 1, 0, none⟩ (.int .i64 0)) (w.heap.size + 1) 3 (.int .i64 0) :=
            ((D1.out.kept (grownBy_setCell' _ _ _) (by simp)).set _).kept (grownBy_setCell' _ _ _) (by simp)
          have d2 : Boxed (((W1.setCell ⟨w.heap.size, 0, none⟩ (.slice ao us1.length co)).setCell ⟨w.heap.size + 1, 0, none⟩ (.int .i64 0)).setCell ⟨w.heap.size + 1 + 1, 0, none⟩ (.int .i64 0)) (w.heap.size + 1 + 1) 25 (.int .i64 0) :=
            ((D2.out.kept (grownBy_setCell' _ _ _) (by simp; omega)).kept (grownBy_setCell' _ _ _) (by simp)).set _
          have b3 : Below w.heap.size w (((W1.setCell ⟨w.heap.size, 0, none⟩ (.slice ao us1.length co)).setCell ⟨w.heap.size + 1, 0, none⟩ (.int .i64 0)).setCell ⟨w.heap.size + 1 + 1, 0, none⟩ (.int .i64 0)) :=
            ((HB1.out.setCell (p := ⟨w.heap.size, 0, none⟩) (Nat.le_refl _) _).setCell (p := ⟨w.heap.size + 1, 0, none⟩) (by simp) _).setCell (p := ⟨w.heap.size + 1 + 1, 0, none⟩) (by simp; omega) _
          have K : Keeps (fun b => w2.heap.size < b ∧ ∃ cs t, W1.heap[b]? = some (Obj.cells cs t (0, 0))) W1 ((((W1.setCell ⟨w.heap.size, 0, none⟩ (.slice ao us1.length co)).setCell ⟨w.heap.size + 1, 0, none⟩ (.int .i64 0)).setCell ⟨w.heap.size + 1 + 1, 0, none⟩ (.int .i64 0)).putObj WL.heap.size (.deferred none)) :=
            ⟨by simp, fun k _ hk => (World.putObj_heap_other (by
              rintro rfl
              obtain ⟨_, cs, t, hc⟩ := hk
              rw [HK1.out] at hc
              cases hc)).trans ((heap_setCell_ne _ _ _ _ (by have := hk.1; have := HZ.out; simp; omega)).trans ((heap_setCell_ne _ _ _ _ (by have := hk.1; have := HZ.out; simp; omega)).trans (heap_setCell_ne _ _ _ _ (by have := hk.1; have := HZ.out; simp; omega))))⟩
          refine ⟨by simp, .inl ⟨_, _, rfl, run_takeDeferred k3', ?_⟩⟩
          refine ⟨_, results19 _ _ _ _ _ ao us1.length co 0 0 rfl rfl rfl (Boxed.cell ((World.putObj_heap_other hD.1.symm).trans d0)) (Boxed.cell ((World.putObj_heap_other hD.2.1.symm).trans d1)) (Boxed.cell ((World.putObj_heap_other hD.2.2.symm).trans d2)), ?_⟩
          unfold ParseOut
          rw [HPARSE.out]
          unfold endL
          rw [if_neg (by rw [HI0.out]; simp)]
          exact ⟨_, rfl, (HR.out.keeps K).mono (fun _ _ => trivial), b3.grown (grownBy_putObj' _ _ _) b3.size (fun k e => by cases e; rw [HSZ.out]; have := HZ.out; omega)⟩
  case stop =>
    rintro c pre W _ ⟨rfl, k, hp, d0, d1, d2, hB⟩ hK
    have HD0 := Lib.hid d0
    have HD1 := Lib.hid d1
    have HD2 := Lib.hid d2
    have HK := Lib.hid hK
    clear d0 d1 d2 hK
    gi_wp2
    refine ⟨by simp, .inl ⟨_, _, rfl, run_takeDeferred HK.out, ?_⟩⟩
    have hr : ∀ j, j < w.heap.size + 3 → (W.putObj WL.heap.size (.deferred none)).heap[j]? = W.heap[j]? := fun j hj => World.putObj_heap_other (by rw [HSZ.out]; have := HZ.out; omega)
    refine ⟨_, results19 _ _ _ _ _ none 0 0 k 3 rfl rfl rfl (Boxed.cell ((hr _ (by omega)).trans HD0.out)) (Boxed.cell ((hr _ (by omega)).trans HD1.out)) (Boxed.cell ((hr _ (by omega)).trans HD2.out)), ?_⟩
    unfold ParseOut
    rw [hp]
    exact ⟨_, rfl, regs_nil _ _, hB.grown (grownBy_putObj' W _ _) hB.size (fun k e => by cases e; rw [HSZ.out]; have := HZ.out; omega)⟩
/-- markers.Parse. -/
theorem parse_any (l : List UInt8) (w : World) : Calls Tryd.prog 19 #[.string (B l)] w (ParseOut l w) := by
  by_cases h : (splitL l).2 = 0
  · exact parse_main l w h
  · exact parse_err l w h
end Go.Proofs.YtbdekdhdkdjejaaDoor
