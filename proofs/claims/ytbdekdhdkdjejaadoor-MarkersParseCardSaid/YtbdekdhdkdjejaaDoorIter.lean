/- A range over a function whose iterator keeps state of its own in some blocks (the set T): the iterator may turn these between two rounds, the loop's body leaves them alone. -/
import Derived.RangeFuncBox
import Derived.RangeFuncBound
import Derived.RangeFuncCalls
import Derived.RangeFuncLeaves
import Derived.WalkKit
import Derived.OwnWalkIn
import Derived.TacticsInMore
import Derived.LoopNIn
import Derived.LoopIn
namespace Go.Proofs.YtbdekdhdkdjejaaDoor
open Go.RowKit

/-- What may be said between two rounds: it outlives new blocks, and turns of the iterator's own blocks. -/
def Outlives {α : Type} (T : Nat → Prop) (J : List α → World → Prop) : Prop :=
  ∀ pre A Z row, J pre A → A.grownBy Z row → (∀ r, row = some r → T r) → J pre Z

/-- The iterator's contract: each round is at the next element; Kp is what a round that goes on keeps. -/
def Iter {α : Type} (F : Fence) (n : Nat) (P : Program) (g : Nat) (lb : Array Value) (encs : α → Array Value) (T : Nat → Prop) (Kp : World → World → Prop) (Full Part : List α → Prop) (w : World) : Prop :=
  ∀ (l : Nat) (J Jx : List α → World → Prop) (W : World), Below w.heap.size w W → Outlives T J → Outlives T Jx →
    (∀ pre x V, J pre V → Part (pre ++ [x]) → YieldAt F (n - 1) P l (encs x) V fun e V' =>
      (e = .returned (.bool true) ∧ J (pre ++ [x]) V' ∧ Kp V V') ∨ (e = .returned (.bool false) ∧ Jx (pre ++ [x]) V')) →
    J [] W →
    CallsIn F n P g (#[.func (.yield l) #[] #[]] ++ lb) W fun e W' => (∃ v, e = .returned v) ∧ ((∃ xs, Full xs ∧ J xs W') ∨ (∃ pre, Part pre ∧ Jx pre W'))

/-- How the body of a round ends: B is the heap's size where the loop began. -/
def roundEnds {α : Type} (N : Nat) (Kp : World → World → Prop) (I : List α → World → Prop) (Ix : Code → List α → World → Prop) (xs : List α) (V : World) : Exit → Act → World → Prop
  | .normal, _, V' => KeepsFrom N V V' ∧ Kp V V' ∧ I xs V'
  | .ret, _, V' => KeepsFrom N V V' ∧ Ix .ret xs V'
  | .exit i, _, V' => KeepsFrom N V V' ∧ Ix (.exit i) xs V'
  | .goto t, _, V' => KeepsFrom N V V' ∧ Ix (.goto t) xs V'
  | .panic _, _, _ => False
  | .outgrown, _, _ => False

/-- The loop's two records: the block for deferred calls, and the loop's own. -/
structure Kept (D : Nat) (r : Loop) (W : World) : Prop where
  defers : W.heap[D]? = some (.deferred (some []))
  loopAt : W.heap[D + 1]? = some (.loop r)

theorem Kept.grown {D : Nat} {r : Loop} {A Z : World} {row : Option Nat} (h : Kept D r A) (hg : A.grownBy Z row) (hr : ∀ k, row = some k → k < D) : Kept D r Z :=
  ⟨(hg.block D (Array.getElem?_eq_some_iff.1 h.defers).1 (fun e => by have := hr D e.symm; omega)).trans h.defers,
   (hg.block (D + 1) (Array.getElem?_eq_some_iff.1 h.loopAt).1 (fun e => by have := hr (D + 1) e.symm; omega)).trans h.loopAt⟩
theorem Kept.put {D : Nat} {r : Loop} {A : World} (h : Kept D r A) (r' : Loop) : Kept D r' (A.putObj (D + 1) (.loop r')) :=
  ⟨(World.putObj_heap_other (by omega)).trans h.defers, World.putObj_heap_same (Array.getElem?_eq_some_iff.1 h.loopAt).1⟩
theorem Kept.from {D : Nat} {r : Loop} {A Z : World} (h : Kept D r A) (hk : KeepsFrom D A Z) : Kept D r Z :=
  ⟨hk.same D _ (Nat.le_refl _) h.defers rfl, hk.same (D + 1) _ (by omega) h.loopAt rfl⟩

theorem keeps_at {N D : Nat} {A Z : World} (h : N = D) (hk : KeepsFrom N A Z) : KeepsFrom D A Z := h ▸ hk

variable {F : Fence} {n : Nat} {P : Program}

theorem iter_law {α : Type} {g : Operand} {ps : Array Tmp} {assign body : Code} {Q : Exit → Act → World → Prop} {a : Act} {w : World}
    (hro : F.round = none) (h1 : 1 ≤ n) {gf : Nat} {lb : Array Value} (hg : a.eval g = .func (.func gf) #[] lb) (hFg : F.fn gf) (eg : ∀ args w, (callFunc gf args).run P w = .ok (.enter gf args) w)
    {encs : α → Array Value} {T : Nat → Prop} {Kp : World → World → Prop} {Full Part : List α → Prop} (hseq : Iter F (n - 1) P gf lb encs T Kp Full Part w) (hT : ∀ k, T k → k < w.heap.size)
    (hKt : ∀ {X Y Z : World}, Kp X Y → Kp Y Z → Kp X Z) (hKb : ∀ (V : World) (r r' : Loop), Kept w.heap.size r V → Kp V (V.putObj (w.heap.size + 1) (.loop r'))) (hps : ∀ x, (encs x).size = ps.size)
    (I : List α → World → Prop) (Ix : Code → List α → World → Prop) (hI : OwnFrom w.heap.size I) (hIx : ∀ c, OwnFrom w.heap.size (Ix c)) (hIT : Outlives T I) (hIxT : ∀ c, Outlives T (Ix c)) (h0 : I [] w) (a₁ : α → Act)
    (hassign : ∀ (l : Nat) (x : α) (V : World) (K : Act → World → Prop), K (a₁ x) V →
      assign.wpIn (F.inRound l) (n - 1 - 1) P (Exit.then K (fun _ _ _ => False)) { tmps := (ps.zip (encs x)).foldl (fun t (p, v) => t.setIfInBounds p v) a.tmps, defers := [] } V)
    (hbody : ∀ (l : Nat) (pre : List α) (x : α) (V : World), I pre V → Part (pre ++ [x]) → body.wpIn (F.inRound l) (n - 1 - 1) P (roundEnds w.heap.size Kp I Ix (pre ++ [x]) V) (a₁ x) V)
    (hdone : ∀ (xs : List α) (V : World), Full xs → I xs V → V.heap[w.heap.size]? = some (.deferred (some [])) → Q .normal { a with defers := { target := .collected w.heap.size, args := #[] } :: a.defers } V)
    (hstop : ∀ (c : Code) (pre : List α) (V : World), Part pre → Ix c pre V → V.heap[w.heap.size]? = some (.deferred (some [])) → c.wpIn F n P Q { a with defers := { target := .collected w.heap.size, args := #[] } :: a.defers } V) :
    (Code.rangeFunc g ps assign body).wpIn F n P Q a w := by
  obtain ⟨D, hD⟩ : ∃ D, D = w.heap.size := ⟨_, rfl⟩
  refine wpIn_rangeFunc fun fn hfn => ?_
  rw [hro]
  obtain ⟨r0, hr0⟩ : ∃ r0 : Loop, r0 = { state := .ready, pending := none, fn, tmps := a.tmps, params := ps, assign, body, defers := w.heap.size } := ⟨_, rfl⟩
  obtain ⟨W1, hW1⟩ : ∃ W1, W1 = (w.alloc (.deferred (some []))).alloc (.loop r0) := ⟨_, rfl⟩
  have hk1 : Kept D r0 W1 := by
    rw [hW1, hD]
    refine ⟨(Below.heap_alloc _ _ _ (by simp)).trans (World.alloc_heap_new w _), ?_⟩
    have := World.alloc_heap_new (w.alloc (.deferred (some []))) (.loop r0)
    rwa [World.size_alloc] at this
  have hs1 : Below w.heap.size w W1 := by rw [hW1]; exact ((Below.refl _ w).alloc (Nat.le_refl _) _).alloc (by simp) _
  -- what lies at a loop's record is no cells, and lies beyond the loop's start
  have hput : ∀ {J : List α → World → Prop} {pre : List α} {r : Loop} {V : World} (r' : Loop), OwnFrom w.heap.size J → J pre V → Kept D r V → J pre (V.putObj (D + 1) (.loop r')) :=
    fun r' hJ hj hk => hJ.putObj _ hj (by omega) hk.loopAt rfl
  have hTD : ∀ {row : Option Nat}, (∀ k, row = some k → T k) → ∀ k, row = some k → k < D := fun h k e => by rw [hD]; exact hT k (h k e)
  refine ⟨D + 1, [{ target := .collected D, args := #[] }], W1, { target := .fn (.func gf) lb, args := #[.func (.yield (D + 1)) #[] #[]] }, W1, gf,
    #[.func (.yield (D + 1)) #[] #[]] ++ lb, W1, ?_, ?_, ?_, ?_, fun _ => h1, ?_⟩
  · rw [hW1, hr0, hD]; exact run_enterLoop_outer _ _ _ _ _
  · simp only [resolve, hg]
    simp [go_sem]
  · intro f' hf'
    simp [Target.leads] at hf'
    subst hf'
    exact hFg
  · simp [invoke, go_sem, eg]
  refine (hseq (D + 1) (fun pre V => I pre V ∧ Kept D r0 V) (fun pre V => ∃ c, Ix c pre V ∧ Kept D { r0 with state := .done, pending := some c } V) W1 hs1
    (fun pre A Z row h hgr hr => ⟨hIT pre A Z row h.1 hgr hr, h.2.grown hgr (hTD hr)⟩)
    (fun pre A Z row h hgr hr => by obtain ⟨c, hc, hk⟩ := h; exact ⟨c, hIxT c pre A Z row hc hgr hr, hk.grown hgr (hTD hr)⟩) ?round
    ⟨by rw [hW1]; exact hI.alloc _ (hI.alloc _ h0), hk1⟩).mono ?after
  case round =>
    rintro pre x V ⟨hi, hk⟩ hpart
    have hy := run_yield (P := P) (args := encs x) hk.loopAt (by rw [hr0]; exact hps x)
    rw [hr0] at hy
    have hkb := hk.put { r0 with state := .busy }
    refine ⟨fn, _, assign, body, hy, roundIn_of_wpIn hfn (hassign _ x V _ ⟨_, run_beginRound hk.loopAt (by rw [hr0]), ?_⟩)⟩
    refine wpIn_mono (hbody _ pre x _ (hput _ hI hi hk) hpart) ?_
    intro e a3 V3 hp
    cases e with
    | normal =>
      obtain ⟨hk3, hkp, hi3⟩ := hp
      have hb3 := hkb.from (keeps_at hD.symm hk3)
      exact ⟨_, _, run_endRound none hb3.loopAt, .inl ⟨rfl, ⟨hput _ hI hi3 hb3, by have := hb3.put r0; rw [hr0] at this ⊢; exact this⟩,
        hKt (hKt (by rw [hD]; exact hKb V r0 _ (by rw [← hD]; exact hk)) hkp) (by rw [hD]; exact hKb V3 _ _ (by rw [← hD]; exact hb3))⟩⟩
    | ret =>
      obtain ⟨hk3, hi3⟩ := hp
      have hb3 := hkb.from (keeps_at hD.symm hk3)
      exact ⟨_, _, run_endRound (some .ret) hb3.loopAt, .inr ⟨rfl, .ret, hput _ (hIx _) hi3 hb3, hb3.put _⟩⟩
    | exit i =>
      obtain ⟨hk3, hi3⟩ := hp
      have hb3 := hkb.from (keeps_at hD.symm hk3)
      exact ⟨_, _, run_endRound (some (.exit i)) hb3.loopAt, .inr ⟨rfl, .exit i, hput _ (hIx _) hi3 hb3, hb3.put _⟩⟩
    | goto t =>
      obtain ⟨hk3, hi3⟩ := hp
      have hb3 := hkb.from (keeps_at hD.symm hk3)
      exact ⟨_, _, run_endRound (some (.goto t)) hb3.loopAt, .inr ⟨rfl, .goto t, hput _ (hIx _) hi3 hb3, hb3.put _⟩⟩
    | panic ch => exact hp.elim
    | outgrown => exact hp.elim
  case after =>
    rintro e W2 ⟨⟨v, rfl⟩, (⟨xs, hF, hi, hk⟩ | ⟨pre, hPt, c, hi, hk⟩)⟩
    · have hp : r0.pending = none := by rw [hr0]
      have hr := run_endLoop (P := P) hk.loopAt (by rw [hr0]; simp)
      rw [hp] at hr
      have hq := hdone xs (W2.putObj (D + 1) (.loop { r0 with state := .exhausted, pending := none })) hF (hput _ hI hi hk) ((World.putObj_heap_other (by omega)).trans (by rw [← hD]; exact hk.defers))
      rw [← hD] at hq
      exact ⟨none, _, hr, hq⟩
    · have hr := run_endLoop (P := P) hk.loopAt (by simp)
      have hq := hstop c pre (W2.putObj (D + 1) (.loop { r0 with state := .exhausted, pending := some c })) hPt (hput _ (hIx c) hi hk) ((World.putObj_heap_other (by omega)).trans (by rw [← hD]; exact hk.defers))
      rw [← hD] at hq
      exact ⟨some c, _, hr, hq⟩
end Go.Proofs.YtbdekdhdkdjejaaDoor
