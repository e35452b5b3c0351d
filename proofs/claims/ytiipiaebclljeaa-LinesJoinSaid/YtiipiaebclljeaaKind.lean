import Derived.Test.YtiipiaebclljeaaBase
namespace Go.Proofs.Ytiipiaebclljeaa
open Go.RowKit

def isWord (c : UInt8) : Bool := decide ((97 ≤ c.toNat ∧ c.toNat ≤ 122) ∨ (65 ≤ c.toNat ∧ c.toNat ≤ 90) ∨ (48 ≤ c.toNat ∧ c.toNat ≤ 57) ∨ c.toNat = 95 ∨ 128 ≤ c.toNat)
def isBlank (c : UInt8) : Bool := decide (c.toNat = 32)
def kindOf (c : UInt8) : Nat := if isWord c then 1 else if isBlank c then 2 else 0
def wordN (n : Nat) : Prop := (97 ≤ n ∧ n ≤ 122) ∨ (65 ≤ n ∧ n ≤ 90) ∨ (48 ≤ n ∧ n ≤ 57) ∨ n = 95 ∨ 128 ≤ n

set_option maxHeartbeats 1000000 in
theorem wordByte_any (c : UInt8) (w : World) : Calls Try.prog 28 #[.int .u8 (c.toNat : Int)] w (Read w (.bool (isWord c))) := by
  obtain ⟨n, hn⟩ : ∃ n, n = c.toNat := ⟨_, rfl⟩
  have H : ∀ b : Bool, (b = true → wordN n) → (b = false → ¬ wordN n) → b = isWord c := by
    intro b h1 h2
    subst hn
    cases b
    · unfold isWord; rw [eq_comm, decide_eq_false_iff_not]; exact h2 rfl
    · unfold isWord; rw [eq_comm, decide_eq_true_iff]; exact h1 rfl
  rw [← hn]
  clear hn
  have H' := Lib.hid H
  clear H
  go_enter Try.func28, Try.ntmps28
  go_wp2
  all_goals go_ret
  all_goals refine ⟨ret_bool (H'.out _ (fun h => ?_) (fun h => ?_)), 0, rfl⟩
  all_goals (unfold wordN; simp at *; try omega)

set_option maxHeartbeats 1000000 in
theorem kind_any (c : UInt8) (w : World) : Calls Try.prog 30 #[.int .u8 (c.toNat : Int)] w (Read w (.int .i64 (kindOf c : Nat))) := by
  obtain ⟨n, hn⟩ : ∃ n, n = c.toNat := ⟨_, rfl⟩
  have H : ∀ b : Int, (b = 1 ∧ wordN n ∨ b = 2 ∧ n = 32 ∨ b = 0 ∧ ¬ wordN n ∧ n ≠ 32) → b = kindOf c := by
    intro b h
    subst hn
    unfold kindOf isWord isBlank
    unfold wordN at h
    simp only [decide_eq_true_eq]
    split
    · omega
    · split <;> omega
  rw [← hn]
  clear hn
  have H' := Lib.hid H
  clear H
  go_enter Try.func30, Try.ntmps30
  go_wp2
  all_goals go_ret
  all_goals refine ⟨ret_int (H'.out _ ?_), 0, rfl⟩
  all_goals (unfold wordN; simp at *; try omega)

theorem blank_any (c : UInt8) (w : World) : Calls Try.prog 29 #[.int .u8 (c.toNat : Int)] w (Read w (.bool (isBlank c))) := by
  go_enter Try.func29, Try.ntmps29
  go_wp2
  go_ret
  refine ⟨ret_bool ?_, 0, rfl⟩
  unfold isBlank
  rw [Bool.eq_iff_iff]
  simp
  omega

/-- The number of bytes at the head of l that p accepts. -/
def runLen (p : UInt8 → Bool) : List UInt8 → Nat
  | [] => 0
  | c :: r => if p c then runLen p r + 1 else 0
theorem runLen_le (p : UInt8 → Bool) (l : List UInt8) : runLen p l ≤ l.length := by
  induction l with
  | nil => simp [runLen]
  | cons c r ih => unfold runLen; split <;> simp <;> omega
theorem runLen_of (p : UInt8 → Bool) (l : List UInt8) (k : Nat) (hk : k ≤ l.length) (h : ∀ j (hj : j < l.length), j < k → p l[j] = true) (hs : ∀ (hl : k < l.length), p l[k] = false) : runLen p l = k := by
  induction l generalizing k with
  | nil => simp at hk; simp [runLen, hk]
  | cons c r ih =>
    cases k with
    | zero =>
      have := hs (by simp)
      simp at this
      simp [runLen, this]
    | succ k =>
      have h0 := h 0 (by simp) (by omega)
      simp at h0
      simp only [runLen, h0, if_true]
      rw [ih k (by simpa using hk) (fun j hj hjk => by have := h (j + 1) (by simpa using hj) (by omega); simpa using this) (fun hl => by have := hs (by simpa using hl); simpa using this)]

set_option maxHeartbeats 400000 in
theorem run_word (l : List UInt8) (w : World) (hl : l.length ≤ maxLen) : Calls Try.prog 27 #[.string (B l), .func (.func 28) #[] #[]] w (Read w (.int .i64 (runLen isWord l : Nat))) := by
  unfold maxLen at hl
  go_enter Try.func27, Try.ntmps27
  go_wp2
  go_loopw [5] (fun i wr => ∃ k q : Nat, i = .int .i64 k ∧ k ≤ l.length ∧ wr = w.drewN q ∧ ∀ j (hj : j < l.length), j < k → isWord l[j] = true) (fun i _ => l.length - (intOf i).toNat)
  case atStart => exact ⟨0, 0, rfl, by omega, rfl, by omega⟩
  case round =>
    obtain ⟨k, q, rfl, hk, rfl, hp⟩ := hrel
    have HP := Lib.hid hp
    clear hp
    by_cases hlt : k < l.length
    · cases hb : isWord l[k]
      · have HB := Lib.hid hb
        clear hb
        go_wp2_with (go_at_call 28; refine (wordByte_any _ _).mono ?_; rintro e w' ⟨rfl, q', rfl⟩; rw [HB.out])
        go_ret
        exact ⟨ret_int (by rw [runLen_of isWord l k hk HP.out (fun _ => HB.out)]), _, rfl⟩
      · have HB := Lib.hid hb
        clear hb
        go_wp2_with (go_at_call 28; refine (wordByte_any _ _).mono ?_; rintro e w' ⟨rfl, q', rfl⟩; rw [HB.out])
        go_roundw
        case rel =>
          refine ⟨k + 1, _, by go_num, by omega, rfl, fun j hj hjk => ?_⟩
          by_cases e : j = k
          · subst e; exact HB.out
          · exact HP.out j hj (by omega)
        case measure => simp [intOf]; omega
    · go_wp2_with fail
      go_ret
      exact ⟨ret_int (by rw [runLen_of isWord l k hk HP.out (fun h => absurd h hlt)]), _, rfl⟩

set_option maxHeartbeats 400000 in
theorem run_blank (l : List UInt8) (w : World) (hl : l.length ≤ maxLen) : Calls Try.prog 27 #[.string (B l), .func (.func 29) #[] #[]] w (Read w (.int .i64 (runLen isBlank l : Nat))) := by
  unfold maxLen at hl
  go_enter Try.func27, Try.ntmps27
  go_wp2
  go_loopw [5] (fun i wr => ∃ k q : Nat, i = .int .i64 k ∧ k ≤ l.length ∧ wr = w.drewN q ∧ ∀ j (hj : j < l.length), j < k → isBlank l[j] = true) (fun i _ => l.length - (intOf i).toNat)
  case atStart => exact ⟨0, 0, rfl, by omega, rfl, by omega⟩
  case round =>
    obtain ⟨k, q, rfl, hk, rfl, hp⟩ := hrel
    have HP := Lib.hid hp
    clear hp
    by_cases hlt : k < l.length
    · cases hb : isBlank l[k]
      · have HB := Lib.hid hb
        clear hb
        go_wp2_with (go_at_call 29; refine (blank_any _ _).mono ?_; rintro e w' ⟨rfl, q', rfl⟩; rw [HB.out])
        go_ret
        exact ⟨ret_int (by rw [runLen_of isBlank l k hk HP.out (fun _ => HB.out)]), _, rfl⟩
      · have HB := Lib.hid hb
        clear hb
        go_wp2_with (go_at_call 29; refine (blank_any _ _).mono ?_; rintro e w' ⟨rfl, q', rfl⟩; rw [HB.out])
        go_roundw
        case rel =>
          refine ⟨k + 1, _, by go_num, by omega, rfl, fun j hj hjk => ?_⟩
          by_cases e : j = k
          · subst e; exact HB.out
          · exact HP.out j hj (by omega)
        case measure => simp [intOf]; omega
    · go_wp2_with fail
      go_ret
      exact ⟨ret_int (by rw [runLen_of isBlank l k hk HP.out (fun h => absurd h hlt)]), _, rfl⟩

end Go.Proofs.Ytiipiaebclljeaa
